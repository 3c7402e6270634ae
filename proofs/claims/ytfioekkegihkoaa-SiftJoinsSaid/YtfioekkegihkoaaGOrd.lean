/- Texts joined: LSl, SortR, Srt, Asc, Part. -/
import Derived.Test.YtfioekkegihkoaaGSl
import Derived.Test.YtfioekkegihkoaaGLib
import Derived.Sort.AssemblyPlain
import Derived.Sort.Row
import Derived.CellFam
import Derived.Deep.LoopGhost
import Derived.Deep.DeepCutAuto
import Derived.Deep.CutBlock
import Derived.BigGuard
import Derived.BigCall
set_option linter.unusedVariables false
set_option linter.unusedSimpArgs false
/- A slice of slices of whole numbers: what is read of it. No program in sight. -/
namespace Go.Proofs.Ytfioekkegihkoaa
open Go.RowKit
set_option linter.unusedVariables false
/-- The slice v of slices reads as the lists ls. -/
def LSl (k : IntKind) (w : World) (v : Value) (ls : List (List Int)) : Prop := ∃ a cap, v = .slice a ls.length cap ∧ ls.length ≤ cap ∧ cap ≤ 9223372036854775807 ∧
  (ls = [] ∨ ∃ b off, a = some ⟨b, off, none⟩ ∧ ∀ i l, ls[i]? = some l → ∃ u, w.cell? ⟨b, off + i, none⟩ = some u ∧ ISl k w u l)
section
variable {k : IntKind} {w w' : World} {v : Value} {ls : List (List Int)}
theorem LSl.slice_ (h : LSl k w v ls) : ∃ a cap, v = .slice a ls.length cap ∧ ls.length ≤ cap ∧ cap ≤ 9223372036854775807 := by
  obtain ⟨a, cap, rfl, h1, h2, _⟩ := h; exact ⟨a, cap, rfl, h1, h2⟩
theorem LSl.get {a : Option Addr} {n cap : Nat} (h : LSl k w (.slice a n cap) ls) {i : Nat} (hi : i < ls.length) : ∃ b off u l, a = some ⟨b, off, none⟩ ∧ b < w.heap.size ∧ ls[i]? = some l ∧ w.cell? ⟨b, off + i, none⟩ = some u ∧ ISl k w u l := by
  obtain ⟨a', cap', he, h1, h2, h4⟩ := h
  injection he with e1 e2 e3; subst e1 e2
  rcases h4 with rfl | ⟨b, off, rfl, h5⟩
  · simp at hi
  · have h0 : ls[i]? = some ls[i] := List.getElem?_eq_getElem hi
    obtain ⟨u, hc, hu⟩ := h5 i _ h0
    exact ⟨b, off, u, _, rfl, by simpa using World.block_lt_of_cell? w _ hc, h0, hc, hu⟩
theorem LSl.nil_ (k : IntKind) (w : World) (a : Option Addr) (cap : Nat) (hc : cap ≤ 9223372036854775807) : LSl k w (.slice a 0 cap) [] := ⟨a, cap, rfl, Nat.zero_le _, hc, .inl rfl⟩
/-- A block of slices, all of it or its beginning. -/
theorem LSl.of_blk {b t : Nat} {us : Array Value} (hb : Blk w b t us) (hn : us.size ≤ 1000000) (hl : ls.length ≤ us.size) (h : ∀ (i : Nat) (l : List Int), ls[i]? = some l → ∃ u : Value, us[i]? = some u ∧ ISl k w u l) : LSl k w (.slice (some ⟨b, 0, none⟩) ls.length us.size) ls :=
  ⟨_, _, rfl, hl, by omega, .inr ⟨b, 0, rfl, fun i l hi => by
    obtain ⟨u, h1, h2⟩ := h i l hi
    exact ⟨u, by rw [Nat.zero_add, hb.cell, h1], h2⟩⟩⟩
end
/-- How long they are together (a name of its own: the walk counts no lists). -/
def flen (ls : List (List Int)) : Nat := ls.flatten.length
theorem flatten_take {ls : List (List Int)} {i : Nat} {l : List Int} (h : ls[i]? = some l) : flen (ls.take (i + 1)) = flen (ls.take i) + l.length := by
  unfold flen; rw [List.take_add_one, h]; simp
theorem flatten_take2 {ls : List (List Int)} {i : Nat} {l : List Int} (h : ls[i]? = some l) : (ls.take (i + 1)).flatten = (ls.take i).flatten ++ l := by
  rw [List.take_add_one, h]; simp
theorem flatten_le (ls : List (List Int)) (i : Nat) : flen (ls.take i) ≤ flen ls := by
  unfold flen
  have : ls.flatten = (ls.take i).flatten ++ (ls.drop i).flatten := by rw [← List.flatten_append, List.take_append_drop]
  rw [this, List.length_append]; omega
end Go.Proofs.Ytfioekkegihkoaa

/- A row of whole numbers that is being sorted: what stands in its cells, what else may have turned. No program in sight. -/
namespace Go.Proofs.Ytfioekkegihkoaa
open Go.RowKit
set_option linter.unusedVariables false
set_option linter.unusedSimpArgs false
/-- Behind w0, w: the row of n elements at place o of block b (sz cells of type e) holds d; of what was in w0 only block b may have turned. -/
structure SR (k : IntKind) (e sz b o n : Nat) (w0 w : World) (d : Array Int) : Prop where
  size : d.size = n
  mod : Mod [b] w0 w
  blk : ∃ cs, Blk w b e cs ∧ cs.size = sz ∧ ∀ t, t < n → cs[o + t]? = some (.int k d[t]!)
section
variable {k : IntKind} {e sz b o n : Nat} {w0 w w' : World} {d : Array Int}
theorem SR.cell (h : SR k e sz b o n w0 w d) {t : Nat} (ht : t < n) : w.cell? ⟨b, o + t, none⟩ = some (.int k d[t]!) := by
  obtain ⟨cs, h1, h2, h3⟩ := h.blk
  rw [h1.cell]; exact h3 t ht
theorem SR.free (h : SR k e sz b o n w0 w d) (t : Nat) : w.frozen? ⟨b, t, none⟩ = false := by
  obtain ⟨cs, h1, h2, h3⟩ := h.blk
  exact h1.frozen t
theorem SR.lt (h : SR k e sz b o n w0 w d) : b < w.heap.size := by
  obtain ⟨cs, h1, h2, h3⟩ := h.blk
  exact h1.lt
theorem SR.drew (h : SR k e sz b o n w0 w d) : SR k e sz b o n w0 w.drew d := ⟨h.size, h.mod.drew, h.blk⟩
theorem SR.drewN (h : SR k e sz b o n w0 w d) (q : Nat) : SR k e sz b o n w0 (w.drewN q) d := ⟨h.size, h.mod.drewN q, h.blk⟩
theorem SR.step (h : SR k e sz b o n w0 w d) (hm : Mod [] w w') : SR k e sz b o n w0 w' d := by
  obtain ⟨cs, h1, h2, h3⟩ := h.blk
  exact ⟨h.size, h.mod.trans hm (by simp), cs, h1.mod hm (by simp), h2, h3⟩
theorem SR.alloc (h : SR k e sz b o n w0 w d) (ob : Obj) : SR k e sz b o n w0 (w.alloc ob) d := h.step ((Mod.refl [] w).alloc ob)
theorem SR.far (h : SR k e sz b o n w0 w d) {p : Addr} (hp : p.block ≠ b) (hq : w0.heap.size ≤ p.block) (u : Value) : SR k e sz b o n w0 (w.setCell p u) d := by
  obtain ⟨cs, h1, h2, h3⟩ := h.blk
  exact ⟨h.size, h.mod.set (.inr hq) u, cs, h1.far (Ne.symm hp) u, h2, h3⟩
theorem SR.set (h : SR k e sz b o n w0 w d) {i : Nat} (hi : i < n) (x : Int) : SR k e sz b o n w0 (w.setCell ⟨b, o + i, none⟩ (.int k x)) (d.setIfInBounds i x) := by
  obtain ⟨cs, h1, h2, h3⟩ := h.blk
  refine ⟨by simp [h.size], h.mod.set (by simp) _, _, h1.set _ _, by simp [h2], fun t ht => ?_⟩
  have hz := h.size
  by_cases hit : i = t
  · subst hit
    have h4 := h3 i hi
    have h5 : o + i < cs.size := (Array.getElem?_eq_some_iff.1 h4).1
    rw [Array.getElem?_setIfInBounds, if_pos rfl, if_pos h5, Sort.getElem!_set_same d i x (by omega)]
  · rw [Array.getElem?_setIfInBounds, if_neg (by omega), h3 t ht, Sort.getElem!_set_other d i t x (fun hh => hit hh.symm)]
theorem SR.swp (h : SR k e sz b o n w0 w d) {i j : Nat} (hi : i < n) (hj : j < n) :
    SR k e sz b o n w0 ((w.setCell ⟨b, o + i, none⟩ (.int k d[j]!)).setCell ⟨b, o + j, none⟩ (.int k d[i]!)) (Sort.swp d i j) := (h.set hi _).set hj _
/-- The same, the cells' contents under names of their own. -/
theorem SR.swp' (h : SR k e sz b o n w0 w d) {i j : Nat} {x y : Int} (hi : i < n) (hj : j < n) (hx : x = d[i]!) (hy : y = d[j]!) :
    SR k e sz b o n w0 ((w.setCell ⟨b, o + i, none⟩ (.int k y)).setCell ⟨b, o + j, none⟩ (.int k x)) (Sort.swp d i j) := by subst hx hy; exact h.swp hi hj
/-- The same, the places as the walk spells them. -/
theorem SR.swpa (h : SR k e sz b o n w0 w d) {i j p q : Nat} {x y : Int} (hp : p = o + i) (hq : q = o + j) (hi : i < n) (hj : j < n) (hx : x = d[i]!) (hy : y = d[j]!) :
    SR k e sz b o n w0 ((w.setCell ⟨b, p, none⟩ (.int k y)).setCell ⟨b, q, none⟩ (.int k x)) (Sort.swp d i j) := by subst hp hq hx hy; exact h.swp hi hj
/-- Both families, the contents under a name. -/
theorem SR.fam (h : SR k e sz b o n w0 w d) : ∃ G : Nat → Int, (∀ t i, t = i → G t = d[i]!) ∧ (∀ t, t < n → w.cell? ⟨b, o + t, none⟩ = some (.int k (G t))) ∧ (∀ t, t < n → w.frozen? ⟨b, o + t, none⟩ = false) :=
  ⟨fun t => d[t]!, fun t i h => by rw [h], fun t ht => h.cell ht, fun t _ => h.free _⟩
end
theorem ins_go {lt : Int → Int → Bool} {a j : Nat} {d : Array Int} (hj : a < j) (hl : lt d[j]! d[j - 1]! = true) : Sort.insInner lt a j d = Sort.insInner lt a (j - 1) (Sort.swp d j (j - 1)) := by
  obtain ⟨i, rfl⟩ : ∃ i, j = i + 1 := ⟨j - 1, by omega⟩
  simp only [Nat.add_sub_cancel] at hl ⊢
  rw [Sort.insInner, if_pos (by simp [hl]; omega)]
theorem ins_stop {lt : Int → Int → Bool} {a j : Nat} {d : Array Int} (h : j ≤ a ∨ lt d[j]! d[j - 1]! = false) : Sort.insInner lt a j d = d := by
  cases j with
  | zero => rfl
  | succ i =>
    simp only [Nat.add_sub_cancel] at h
    rw [Sort.insInner, if_neg]
    rcases h with h | h
    · simp; intro h2; omega
    · simp [h]
theorem sd_end {lt : Int → Int → Bool} {hi F root : Nat} (d : Array Int) (h : hi ≤ 2 * root + 1) : Sort.siftDown lt hi F root d = d := by rw [Sort.siftDown, dif_pos h]
/-- Child c is the one that is asked. -/
def Child (lt : Int → Int → Bool) (hi F root c : Nat) (d : Array Int) : Prop :=
  (c = 2 * root + 2 ∧ 2 * root + 2 < hi ∧ lt d[F + (2 * root + 1)]! d[F + (2 * root + 2)]! = true) ∨ (c = 2 * root + 1 ∧ 2 * root + 1 < hi ∧ (2 * root + 2 < hi → lt d[F + (2 * root + 1)]! d[F + (2 * root + 2)]! = false))
theorem sd_stop {lt : Int → Int → Bool} {hi F root c : Nat} {d : Array Int} (hc : Child lt hi F root c d) (h : lt d[F + root]! d[F + c]! = false) : Sort.siftDown lt hi F root d = d := by
  rcases hc with ⟨rfl, h1, h2⟩ | ⟨rfl, h1, h2⟩
  · rw [Sort.siftDown, dif_neg (by omega), show F + (2 * root + 1) + 1 = F + (2 * root + 2) by omega, h2, h]
    simp [show 2 * root + 1 + 1 < hi by omega]
  · rw [Sort.siftDown, dif_neg (by omega), show F + (2 * root + 1) + 1 = F + (2 * root + 2) by omega, h]
    by_cases hh : 2 * root + 2 < hi
    · simp [h2 hh]
    · simp [show ¬ 2 * root + 1 + 1 < hi by omega]
theorem sd_go {lt : Int → Int → Bool} {hi F root c : Nat} {d : Array Int} (hc : Child lt hi F root c d) (h : lt d[F + root]! d[F + c]! = true) :
    Sort.siftDown lt hi F root d = Sort.siftDown lt hi F c (Sort.swp d (F + root) (F + c)) := by
  rcases hc with ⟨rfl, h1, h2⟩ | ⟨rfl, h1, h2⟩
  · rw [Sort.siftDown, dif_neg (by omega), show F + (2 * root + 1) + 1 = F + (2 * root + 2) by omega, h2, h]
    simp [show 2 * root + 1 + 1 < hi by omega]
  · rw [Sort.siftDown, dif_neg (by omega), show F + (2 * root + 1) + 1 = F + (2 * root + 2) by omega, h]
    by_cases hh : 2 * root + 2 < hi
    · simp [h2 hh]
    · simp [show ¬ 2 * root + 1 + 1 < hi by omega]
theorem rev_go {i j : Nat} {d : Array Int} (h : i < j) : Sort.reverseLoop i j d = Sort.reverseLoop (i + 1) (j - 1) (Sort.swp d i j) := by rw [Sort.reverseLoop, if_pos h]
theorem rev_stop {i j : Nat} {d : Array Int} (h : ¬ i < j) : Sort.reverseLoop i j d = d := by rw [Sort.reverseLoop, if_neg h]
theorem half_at {a c : Nat} (h : a ≤ c) : ((c : Int) - (a : Int) - 1).tdiv 2 = (((c - a - 1) / 2 + 1 : Nat) : Int) - 1 := by
  by_cases h : a = c
  · subst h; rw [show ((a : Int) - (a : Int) - 1) = -1 by omega]; simp
  · rw [Int.tdiv_eq_ediv_of_nonneg (by omega)]; omega
section
variable {p : Int → Bool} {d : Array Int} {i j : Nat}
theorem sup_go (h : i ≤ j) (hp : p d[i]! = true) : Sort.scanUp p d j i = Sort.scanUp p d j (i + 1) := by rw [Sort.scanUp, if_pos (by simp [h, hp])]
theorem sup_stop (h : i ≤ j → p d[i]! = false) : Sort.scanUp p d j i = i := by
  rw [Sort.scanUp, if_neg]
  by_cases hh : i ≤ j
  · simp [h hh]
  · simp [hh]
theorem sdn_go (h0 : 1 ≤ j) (h : i ≤ j) (hp : p d[j]! = true) : Sort.scanDown p d i j = Sort.scanDown p d i (j - 1) := by
  obtain ⟨j, rfl⟩ : ∃ k, j = k + 1 := ⟨j - 1, by omega⟩
  rw [Sort.scanDown, if_pos (by simp [h, hp])]; rfl
theorem scan_lt {q : Int → Bool} {I K : Nat} (hq : ∀ x, q x = !p x) (hI : Sort.scanUp p d j i = I) (hK : Sort.scanDown q d I j = K) (h0 : 0 < I) (h : ¬ K < I) : I < K := by
  rcases Nat.lt_or_ge I K with h1 | h1
  · exact h1
  have e : I = K := by omega
  have h2 := (Sort.scanUp_spec p d j _ i rfl).2.2.2
  have h3 := (Sort.scanDown_spec q d I j)
  rw [hI] at h2
  rw [hK] at h3
  have h4 := h2 (by have := h3.1; omega)
  have h5 := h3.2.2.2 (by omega) (by omega)
  rw [← e, hq, h4] at h5
  simp at h5
theorem sdn_stop (h : i ≤ j → p d[j]! = false) : Sort.scanDown p d i j = j := by
  cases j with
  | zero => rfl
  | succ j =>
    rw [Sort.scanDown, if_neg]
    by_cases hh : i ≤ j + 1
    · simp [h hh]
    · simp [hh]
end
section
variable {lt : Int → Int → Bool} {d d1 : Array Int} {a c p I J m : Nat} {d2 : Array Int}
theorem part_one (h1 : Sort.swp d a p = d1) (hI : Sort.scanUp (fun x => lt x d1[a]!) d1 (c - 1) (a + 1) = I) (hJ : Sort.scanDown (fun x => !lt x d1[a]!) d1 I (c - 1) = J) (h : J < I) :
    Sort.partition lt d a c p = (J, true, Sort.swp d1 J a) := by
  unfold Sort.partition
  simp only [h1, hI, hJ]
  rw [if_pos h]
theorem part_two (h1 : Sort.swp d a p = d1) (hI : Sort.scanUp (fun x => lt x d1[a]!) d1 (c - 1) (a + 1) = I) (hJ : Sort.scanDown (fun x => !lt x d1[a]!) d1 I (c - 1) = J) (h : ¬ J < I)
    (hr : Sort.partLoop lt a (I + 1) (J - 1) (Sort.swp d1 I J) = (m, d2)) : Sort.partition lt d a c p = (m, false, Sort.swp d2 m a) := by
  unfold Sort.partition
  simp only [h1, hI, hJ]
  rw [if_neg h, hr]
theorem pl_stop {i j : Nat} (hI : Sort.scanUp (fun x => lt x d[a]!) d j i = I) (hJ : Sort.scanDown (fun x => !lt x d[a]!) d I j = J) (h : J < I) : Sort.partLoop lt a i j d = (J, d) := by
  rw [Sort.partLoop_eq, hI, hJ, if_pos h]
theorem pl_go {i j : Nat} (hI : Sort.scanUp (fun x => lt x d[a]!) d j i = I) (hJ : Sort.scanDown (fun x => !lt x d[a]!) d I j = J) (h : ¬ J < I) : Sort.partLoop lt a i j d = Sort.partLoop lt a (I + 1) (J - 1) (Sort.swp d I J) := by
  rw [Sort.partLoop_eq, hI, hJ, if_neg h]
theorem pe_stop {i j : Nat} (hI : Sort.scanUp (fun x => !lt d[a]! x) d j i = I) (hJ : Sort.scanDown (fun x => lt d[a]! x) d I j = J) (h : J < I) : Sort.partEqLoop lt a i j d = (I, d) := by
  rw [Sort.partEqLoop_eq, hI, hJ, if_pos h]
theorem pe_go {i j : Nat} (hI : Sort.scanUp (fun x => !lt d[a]! x) d j i = I) (hJ : Sort.scanDown (fun x => lt d[a]! x) d I j = J) (h : ¬ J < I) : Sort.partEqLoop lt a i j d = Sort.partEqLoop lt a (I + 1) (J - 1) (Sort.swp d I J) := by
  rw [Sort.partEqLoop_eq, hI, hJ, if_neg h]
end
section
variable {lt : Int → Int → Bool} {d d1 d2 d3 : Array Int} {a c i j s : Nat}
theorem shd_go (h0 : 1 ≤ j) (h : lt d[j]! d[j - 1]! = true) : Sort.shiftDown lt j d = Sort.shiftDown lt (j - 1) (Sort.swp d j (j - 1)) := by
  obtain ⟨j, rfl⟩ : ∃ k, j = k + 1 := ⟨j - 1, by omega⟩
  simp only [Nat.add_sub_cancel] at h ⊢
  rw [Sort.shiftDown, if_neg (by simp [h])]
theorem shd_stop (h : 1 ≤ j → lt d[j]! d[j - 1]! = false) : Sort.shiftDown lt j d = d := by
  cases j with
  | zero => rfl
  | succ j =>
    have h := h (by omega)
    simp only [Nat.add_sub_cancel] at h
    rw [Sort.shiftDown, if_pos (by simp [h])]
theorem shu_go (h0 : j < c) (h : lt d[j]! d[j - 1]! = true) : Sort.shiftUp lt c j d = Sort.shiftUp lt c (j + 1) (Sort.swp d j (j - 1)) := by
  rw [Sort.shiftUp, if_pos h0, if_neg (by simp [h])]
theorem shu_stop (h : j < c → lt d[j]! d[j - 1]! = false) : Sort.shiftUp lt c j d = d := by
  rw [Sort.shiftUp]
  by_cases hh : j < c
  · rw [if_pos hh, if_pos (by simp [h hh])]
  · rw [if_neg hh]
theorem sso_go (h0 : i < c) (h : lt d[i]! d[i - 1]! = false) : Sort.scanSorted lt d c i = Sort.scanSorted lt d c (i + 1) := by
  rw [Sort.scanSorted, if_pos (by simp [h0, h])]
theorem sso_stop (h : i < c → lt d[i]! d[i - 1]! = true) : Sort.scanSorted lt d c i = i := by
  rw [Sort.scanSorted, if_neg]
  by_cases hh : i < c
  · simp [h hh]
  · simp [hh]
theorem pi_done (h : Sort.scanSorted lt d c i = j) (hj : j = c) : Sort.partialIns lt a c (s + 1) i d = (d, true) := by
  rw [Sort.partialIns]; simp only [h]; rw [if_pos hj]
theorem pi_short (h : Sort.scanSorted lt d c i = j) (hj : ¬ j = c) (hs : c - a < 50) : Sort.partialIns lt a c (s + 1) i d = (d, false) := by
  rw [Sort.partialIns]; simp only [h]; rw [if_neg hj, if_pos hs]
theorem pi_go (h : Sort.scanSorted lt d c i = j) (hj : ¬ j = c) (hs : ¬ c - a < 50) (h2 : (if j - a ≥ 2 then Sort.shiftDown lt (j - 1) (Sort.swp d j (j - 1)) else Sort.swp d j (j - 1)) = d2)
    (h3 : (if c - j ≥ 2 then Sort.shiftUp lt c (j + 1) d2 else d2) = d3) : Sort.partialIns lt a c (s + 1) i d = Sort.partialIns lt a c s j d3 := by
  rw [Sort.partialIns]; simp only [h]; rw [if_neg hj, if_neg hs]; simp only [h2, h3]
end
/-- Beside the row a counter in a box of the call's own. -/
structure SP (k : IntKind) (e sz b o n : Nat) (w0 w : World) (d : Array Int) (s m : Nat) : Prop where
  row : SR k e sz b o n w0 w d
  box : ∃ t, Blk w s t #[.int .i64 m]
  ne : s ≠ b
  ge : w0.heap.size ≤ s
section
variable {k : IntKind} {e sz b o n s m : Nat} {w0 w w' : World} {d : Array Int}
theorem SP.drewN (h : SP k e sz b o n w0 w d s m) (q : Nat) : SP k e sz b o n w0 (w.drewN q) d s m := ⟨h.row.drewN q, h.box, h.ne, h.ge⟩
theorem SP.put (h : SP k e sz b o n w0 w d s m) (m' : Nat) : SP k e sz b o n w0 (w.setCell ⟨s, 0, none⟩ (.int .i64 m')) d s m' := by
  obtain ⟨t, hb⟩ := h.box
  exact ⟨h.row.far h.ne h.ge _, ⟨t, by simpa using hb.set 0 (.int .i64 m')⟩, h.ne, h.ge⟩
theorem SP.cell (h : SP k e sz b o n w0 w d s m) : w.cell? ⟨s, 0, none⟩ = some (.int .i64 m) := by obtain ⟨t, hb⟩ := h.box; exact hb.cell 0
theorem SP.free (h : SP k e sz b o n w0 w d s m) : w.frozen? ⟨s, 0, none⟩ = false := by obtain ⟨t, hb⟩ := h.box; exact hb.frozen 0
theorem SP.lt (h : SP k e sz b o n w0 w d s m) : s < w.heap.size := by obtain ⟨t, hb⟩ := h.box; exact hb.lt
end
/-- Beside the row any one cell in a box of the call's own. -/
structure SQ (k : IntKind) (e sz b o n : Nat) (w0 w : World) (d : Array Int) (s : Nat) (v : Value) : Prop where
  row : SR k e sz b o n w0 w d
  box : ∃ t, Blk w s t #[v]
  ne : s ≠ b
  ge : w0.heap.size ≤ s
section
variable {k : IntKind} {e sz b o n s : Nat} {w0 w w' : World} {d : Array Int} {v : Value}
theorem SQ.drewN (h : SQ k e sz b o n w0 w d s v) (q : Nat) : SQ k e sz b o n w0 (w.drewN q) d s v := ⟨h.row.drewN q, h.box, h.ne, h.ge⟩
theorem SQ.drew (h : SQ k e sz b o n w0 w d s v) : SQ k e sz b o n w0 w.drew d s v := ⟨h.row.drew, h.box, h.ne, h.ge⟩
theorem SQ.put (h : SQ k e sz b o n w0 w d s v) (u : Value) : SQ k e sz b o n w0 (w.setCell ⟨s, 0, none⟩ u) d s u := by
  obtain ⟨t, hb⟩ := h.box
  exact ⟨h.row.far h.ne h.ge _, ⟨t, by simpa using hb.set 0 u⟩, h.ne, h.ge⟩
theorem SQ.cell (h : SQ k e sz b o n w0 w d s v) : w.cell? ⟨s, 0, none⟩ = some v := by obtain ⟨t, hb⟩ := h.box; exact hb.cell 0
theorem SQ.free (h : SQ k e sz b o n w0 w d s v) : w.frozen? ⟨s, 0, none⟩ = false := by obtain ⟨t, hb⟩ := h.box; exact hb.frozen 0
theorem SQ.lt (h : SQ k e sz b o n w0 w d s v) : s < w.heap.size := by obtain ⟨t, hb⟩ := h.box; exact hb.lt
theorem SQ.swpa (h : SQ k e sz b o n w0 w d s v) {i j p q : Nat} {x y : Int} (hp : p = o + i) (hq : q = o + j) (hi : i < n) (hj : j < n) (hx : x = d[i]!) (hy : y = d[j]!) :
    SQ k e sz b o n w0 ((w.setCell ⟨b, p, none⟩ (.int k y)).setCell ⟨b, q, none⟩ (.int k x)) (Sort.swp d i j) s v := by
  obtain ⟨t, hb⟩ := h.box
  exact ⟨h.row.swpa hp hq hi hj hx hy, ⟨t, (hb.far h.ne _).far h.ne _⟩, h.ne, h.ge⟩
end
theorem setCell_twice (w : World) (b o : Nat) (u v : Value) : (w.setCell ⟨b, o, none⟩ u).setCell ⟨b, o, none⟩ v = w.setCell ⟨b, o, none⟩ v := by
  rw [Sort.setCell_eq, Sort.setCell_eq, Sort.mapBlock_mapBlock, Sort.setCell_eq]
  congr 1
  funext c
  simp
end Go.Proofs.Ytfioekkegihkoaa

/- A list of whole numbers, sorted (plain); a row that is sorted, and back. -/
namespace Go.Proofs.Ytfioekkegihkoaa
open Go.RowKit
set_option linter.unusedVariables false
/-- Sorted. -/
def srt (l : List Int) : List Int := l.mergeSort (fun x y => decide (x ≤ y))
theorem srt_perm (l : List Int) : (srt l).Perm l := List.mergeSort_perm _ _
theorem srt_length (l : List Int) : (srt l).length = l.length := (srt_perm l).length_eq
theorem srt_mem {l : List Int} {x : Int} : x ∈ srt l ↔ x ∈ l := (srt_perm l).mem_iff
theorem srt_rises (l : List Int) : (srt l).Pairwise (· ≤ ·) := by
  have h := List.pairwise_mergeSort (le := fun x y : Int => decide (x ≤ y)) (by intro a b c h1 h2; simp at h1 h2 ⊢; omega) (by intro a b; simp; omega) l
  exact h.imp (by simp)
theorem srt_of {l : List Int} {d' : Array Int} (h1 : Sort.PermIn 0 l.length l.toArray d') (h2 : Sort.SortedIn Sort.ltInt 0 l.length d') : d'.toList = srt l := by
  have h := Sort.sorted_unique_holds (lt := Sort.ltInt) Sort.swo_ltInt (by intro x y h1 h2; simp [Sort.ltInt] at h1 h2; omega) l.toArray d' (by simpa using h1) (by simpa using h2)
  rw [h]
  unfold srt
  simp only [Sort.ltInt]
  congr 1
  funext x y
  by_cases hxy : x ≤ y
  · rw [decide_eq_true hxy, decide_eq_false (by omega)]; rfl
  · rw [decide_eq_false hxy, decide_eq_true (by omega)]; rfl
theorem SR.of_row {k : IntKind} {e : Nat} {w : World} {v : Value} {l : List Int} (h : Row w e 1 v l.length (icells k l)) (hpos : 0 < l.length) :
    ∃ g cap, v = .slice (some ⟨g, 0, none⟩) l.length cap ∧ rb v = [g] ∧ SR k e cap g 0 l.length w w l.toArray ∧ l.length ≤ cap ∧ cap ≤ 9223372036854775807 := by
  rcases h.2 with ⟨rfl, h2⟩ | ⟨g, cap, cur, rfl, hb, hgg, h3, h4, h5, h6⟩
  · omega
  · refine ⟨g, cap, rfl, by simp [rb, Value.ownBlock], ⟨by simp, Mod.refl _ _, cur, hgg, by simpa using h5, fun t ht => ?_⟩, h3, by unfold maxLen at h4; exact h4⟩
    have h7 : cur.toList[t]? = (icells k l)[t]? := by rw [← h6]; simp [List.getElem?_take, ht]
    have h8 : l[t]? = some l[t] := List.getElem?_eq_getElem ht
    rw [Nat.zero_add]
    have h9 : cur[t]? = cur.toList[t]? := by simp
    rw [h9, h7, icells_get h8]
    simp [ht]
theorem SR.to_row {k : IntKind} {e g cap n : Nat} {w0 w w' : World} {d' : Array Int} {xs : List Value} (h : SR k e cap g 0 n w0 w' d') (h0 : Row w e 1 (.slice (some ⟨g, 0, none⟩) n cap) n xs) :
    Row w' e 1 (.slice (some ⟨g, 0, none⟩) n cap) n (icells k d'.toList) := by
  have hz := h.size
  refine ⟨by simp [icells, hz], ?_⟩
  rcases h0.2 with ⟨h1, _⟩ | ⟨g2, cap2, cur, hv, hb, hgg, h3, h4, h5, h6⟩
  · cases h1
  · injection hv with hv hv2 hv3
    injection hv with hv
    injection hv with hv
    subst hv hv3
    obtain ⟨cs, c1, c2, c3⟩ := h.blk
    refine .inr ⟨g, cap, cs, rfl, hb, c1, h3, h4, by simpa using c2, ?_⟩
    apply List.ext_getElem?
    intro t
    by_cases ht : t < n
    · have h7 := c3 t ht
      rw [Nat.zero_add] at h7
      rw [List.getElem?_take_of_lt (by simpa using ht)]
      have h9 : cs.toList[t]? = cs[t]? := by simp
      rw [h9, h7]
      have h8 : d'.toList[t]? = some d'[t]! := by
        have : t < d'.size := by omega
        simp [this]
      exact (icells_get h8).symm
    · rw [List.getElem?_eq_none (by simp; omega), List.getElem?_eq_none (by simp [icells, hz]; omega)]
end Go.Proofs.Ytfioekkegihkoaa

/- Lists of whole numbers (plain): what Compact makes; the rising list of some numbers; lists that rise are their members. -/
namespace Go.Proofs.Ytfioekkegihkoaa
set_option linter.unusedVariables false
/-- Compact, so far. -/
def cpt (l : List Int) : Nat → List Int
  | 0 => []
  | j + 1 => if j = 0 ∨ l.getD j 0 ≠ l.getD (j - 1) 0 then cpt l j ++ [l.getD j 0] else cpt l j
theorem cpt_new {l : List Int} {j : Nat} (h : j = 0 ∨ l.getD j 0 ≠ l.getD (j - 1) 0) : cpt l (j + 1) = cpt l j ++ [l.getD j 0] := by rw [cpt, if_pos h]
theorem cpt_old {l : List Int} {j : Nat} (h0 : 0 < j) (h : l.getD j 0 = l.getD (j - 1) 0) : cpt l (j + 1) = cpt l j := by rw [cpt, if_neg (fun hh => hh.elim (fun h1 => by omega) (fun h1 => h1 h))]
theorem cpt_le (l : List Int) : ∀ j, (cpt l j).length ≤ j
  | 0 => Nat.le_refl _
  | j + 1 => by
    have := cpt_le l j
    rw [cpt]; split
    · simp; omega
    · omega
/-- So long as nothing is twice. -/
theorem cpt_take {l : List Int} : ∀ j, j ≤ l.length → (∀ i, 0 < i → i < j → l.getD i 0 ≠ l.getD (i - 1) 0) → cpt l j = l.take j
  | 0, _, _ => rfl
  | j + 1, hj, h => by
    have hn : j = 0 ∨ l.getD j 0 ≠ l.getD (j - 1) 0 := by
      rcases Nat.eq_zero_or_pos j with h0 | h0
      · exact .inl h0
      · exact .inr (h j h0 (by omega))
    rw [cpt_new hn, cpt_take j (by omega) (fun i h1 h2 => h i h1 (by omega)), List.take_add_one]
    have : l[j]? = some (l.getD j 0) := by
      rw [List.getD_eq_getElem?_getD, List.getElem?_eq_getElem (by omega)]; rfl
    rw [this]; rfl
theorem cpt_mem {l : List Int} {x : Int} : ∀ j, j ≤ l.length → (x ∈ cpt l j ↔ x ∈ l.take j)
  | 0, _ => by simp [cpt]
  | j + 1, hj => by
    have hg : l[j]? = some (l.getD j 0) := by
      rw [List.getD_eq_getElem?_getD, List.getElem?_eq_getElem (by omega)]; rfl
    have ih := cpt_mem (l := l) (x := x) j (by omega)
    rw [List.take_add_one, hg]
    by_cases hn : j = 0 ∨ l.getD j 0 ≠ l.getD (j - 1) 0
    · rw [cpt_new hn]; simp only [List.mem_append, Option.toList_some, ih]
    · have h0 : 0 < j := Nat.pos_of_ne_zero (fun h => hn (.inl h))
      have he : l.getD j 0 = l.getD (j - 1) 0 := by
        rcases Classical.em (l.getD j 0 = l.getD (j - 1) 0) with h | h
        · exact h
        · exact absurd (.inr h) hn
      rw [cpt_old h0 he, ih]
      simp only [List.mem_append, Option.toList_some, List.mem_singleton]
      refine ⟨.inl, ?_⟩
      rintro (h | h)
      · exact h
      · rw [h, he]
        have hg2 : l[j - 1]? = some (l.getD (j - 1) 0) := by
          rw [List.getD_eq_getElem?_getD, List.getElem?_eq_getElem (by omega)]; rfl
        have : (l.take j)[j - 1]? = some (l.getD (j - 1) 0) := by rw [List.getElem?_take_of_lt (by omega)]; exact hg2
        exact List.mem_of_getElem? this
theorem cpt_rises {l : List Int} (hl : l.Pairwise (· ≤ ·)) : ∀ j, j ≤ l.length → (cpt l j).Pairwise (· < ·)
  | 0, _ => by simp [cpt]
  | j + 1, hj => by
    have ih := cpt_rises hl j (by omega)
    by_cases hn : j = 0 ∨ l.getD j 0 ≠ l.getD (j - 1) 0
    · rw [cpt_new hn, List.pairwise_append]
      refine ⟨ih, by simp, fun x hx y hy => ?_⟩
      simp only [List.mem_singleton] at hy
      subst hy
      rcases Nat.eq_zero_or_pos j with h0 | h0
      · subst h0; simp [cpt] at hx
      · have hne : l.getD j 0 ≠ l.getD (j - 1) 0 := by
          rcases hn with h | h
          · omega
          · exact h
        have hx2 := (cpt_mem j (by omega)).1 hx
        obtain ⟨i, hi, rfl⟩ := List.getElem_of_mem hx2
        have hi2 : i < j := by rw [List.length_take] at hi; omega
        rw [List.getElem_take]
        have e1 : l.getD j 0 = l[j] := by simp [List.getD_eq_getElem?_getD, List.getElem?_eq_getElem (show j < l.length by omega)]
        have e2 : l.getD (j - 1) 0 = l[j - 1] := by simp [List.getD_eq_getElem?_getD, List.getElem?_eq_getElem (show j - 1 < l.length by omega)]
        have h1 : l[j - 1] ≤ l[j] := List.pairwise_iff_getElem.1 hl (j - 1) j (by omega) (by omega) (by omega)
        have h2 : l[i] ≤ l[j - 1] := by
          rcases Nat.lt_or_ge i (j - 1) with h | h
          · exact List.pairwise_iff_getElem.1 hl i (j - 1) (by omega) (by omega) h
          · have : i = j - 1 := by omega
            subst this; exact Int.le_refl _
        rw [e1] at hne ⊢
        rw [e2] at hne
        omega
    · have h0 : 0 < j := Nat.pos_of_ne_zero (fun h => hn (.inl h))
      have he : l.getD j 0 = l.getD (j - 1) 0 := by
        rcases Classical.em (l.getD j 0 = l.getD (j - 1) 0) with h | h
        · exact h
        · exact absurd (.inr h) hn
      rw [cpt_old h0 he]; exact ih
/-- Compact. -/
def cpc (l : List Int) : List Int := cpt l l.length
/-- The rising list of these numbers. -/
def asc (l : List Int) : List Int := cpc (srt l)
theorem asc_mem {l : List Int} {x : Int} : x ∈ asc l ↔ x ∈ l := by
  unfold asc cpc
  rw [cpt_mem _ (Nat.le_refl _), List.take_length, srt_mem]
theorem asc_rises (l : List Int) : (asc l).Pairwise (· < ·) := cpt_rises (srt_rises l) _ (Nat.le_refl _)
theorem asc_le (l : List Int) : (asc l).length ≤ l.length := by
  have := cpt_le (srt l) (srt l).length
  rw [srt_length] at this; unfold asc cpc; rw [srt_length]; exact this
/-- Two rising lists of the same members are one. -/
theorem rise_ext {a b : List Int} (ha : a.Pairwise (· < ·)) (hb : b.Pairwise (· < ·)) (h : ∀ x, x ∈ a ↔ x ∈ b) : a = b := by
  induction a generalizing b with
  | nil =>
    cases b with
    | nil => rfl
    | cons y b => exact absurd ((h y).2 (by simp)) (by simp)
  | cons x a ih =>
    cases b with
    | nil => exact absurd ((h x).1 (by simp)) (by simp)
    | cons y b =>
      rw [List.pairwise_cons] at ha hb
      have hx := (h x).1 (by simp)
      have hy := (h y).2 (by simp)
      have e : x = y := by
        rcases List.mem_cons.1 hx with h1 | h1
        · exact h1
        · rcases List.mem_cons.1 hy with h2 | h2
          · exact h2.symm
          · have := hb.1 x h1; have := ha.1 y h2; omega
      subst e
      congr 1
      refine ih ha.2 hb.2 (fun z => ?_)
      have hz := h z
      simp only [List.mem_cons] at hz
      constructor
      · intro h1
        rcases hz.1 (.inr h1) with h2 | h2
        · have := ha.1 z h1; omega
        · exact h2
      · intro h1
        rcases hz.2 (.inr h1) with h2 | h2
        · have := hb.1 z h1; omega
        · exact h2
theorem asc_eq {a l : List Int} (ha : a.Pairwise (· < ·)) (h : ∀ x, x ∈ a ↔ x ∈ l) : asc l = a := rise_ext (asc_rises l) ha (fun x => by rw [asc_mem, h x])
theorem asc_self {a : List Int} (ha : a.Pairwise (· < ·)) : asc a = a := asc_eq ha (fun _ => Iff.rfl)
/-- How many are below. -/
def rk (l : List Int) (t : Int) : Nat := l.countP (fun x => decide (x < t))
theorem rk_le (l : List Int) (t : Int) : rk l t ≤ l.length := List.countP_le_length
/-- In a list that does not fall the place that parts it is the count. -/
theorem rk_at {l : List Int} {t : Int} {i : Nat} (hi : i ≤ l.length) (h1 : ∀ p, p < i → l.getD p 0 < t) (h2 : ∀ p, i ≤ p → p < l.length → t ≤ l.getD p 0) : rk l t = i := by
  unfold rk
  have e : l = l.take i ++ l.drop i := (List.take_append_drop i l).symm
  rw [e, List.countP_append]
  have a1 : (l.take i).countP (fun x => decide (x < t)) = i := by
    have : (l.take i).countP (fun x => decide (x < t)) = (l.take i).length := by
      rw [List.countP_eq_length]
      intro x hx
      obtain ⟨p, hp, rfl⟩ := List.getElem_of_mem hx
      have hp2 : p < i ∧ p < l.length := by rw [List.length_take] at hp; omega
      have := h1 p hp2.1
      rw [List.getElem_take]
      simpa [List.getD_eq_getElem?_getD, List.getElem?_eq_getElem hp2.2] using this
    rw [this, List.length_take]; omega
  have a2 : (l.drop i).countP (fun x => decide (x < t)) = 0 := by
    rw [List.countP_eq_zero]
    intro x hx
    obtain ⟨p, hp, rfl⟩ := List.getElem_of_mem hx
    have hp2 : i + p < l.length := by rw [List.length_drop] at hp; omega
    have := h2 (i + p) (by omega) hp2
    rw [List.getElem_drop]
    simp [List.getD_eq_getElem?_getD, List.getElem?_eq_getElem hp2] at this
    simp; omega
  rw [a1, a2]; omega
theorem rk_lt {l : List Int} {t : Int} (hl : l.Pairwise (· ≤ ·)) {p : Nat} (hp : p < rk l t) : l.getD p 0 < t ∧ p < l.length := by
  have hlen := rk_le l t
  refine ⟨?_, by omega⟩
  rcases Int.lt_or_le (l.getD p 0) t with h | h
  · exact h
  · -- all from p on are as great as t, so at most p are below
    have : rk l t ≤ p := by
      unfold rk
      have e : l = l.take p ++ l.drop p := (List.take_append_drop p l).symm
      rw [e, List.countP_append]
      have a2 : (l.drop p).countP (fun x => decide (x < t)) = 0 := by
        rw [List.countP_eq_zero]
        intro x hx
        obtain ⟨q, hq, rfl⟩ := List.getElem_of_mem hx
        have hq2 : p + q < l.length := by rw [List.length_drop] at hq; omega
        rw [List.getElem_drop]
        have e1 : l.getD p 0 = l[p] := by simp [List.getD_eq_getElem?_getD, List.getElem?_eq_getElem (show p < l.length by omega)]
        rw [e1] at h
        have h3 : l[p] ≤ l[p + q] := by
          rcases Nat.eq_zero_or_pos q with h0 | h0
          · subst h0; exact Int.le_refl _
          · exact List.pairwise_iff_getElem.1 hl p (p + q) (by omega) hq2 (by omega)
        simp; omega
      have a1 : (l.take p).countP (fun x => decide (x < t)) ≤ (l.take p).length := List.countP_le_length
      rw [List.length_take] at a1
      omega
    omega
theorem rk_ge {l : List Int} {t : Int} (hl : l.Pairwise (· ≤ ·)) {p : Nat} (hp : rk l t ≤ p) (hp2 : p < l.length) : t ≤ l.getD p 0 := by
  rcases Int.lt_or_le (l.getD p 0) t with h | h
  · have e1 : l.getD p 0 = l[p] := by simp [List.getD_eq_getElem?_getD, List.getElem?_eq_getElem hp2]
    rw [e1] at h
    have : p + 1 ≤ rk l t := by
      unfold rk
      have e : l = l.take (p + 1) ++ l.drop (p + 1) := (List.take_append_drop (p + 1) l).symm
      rw [e, List.countP_append]
      have a1 : (l.take (p + 1)).countP (fun x => decide (x < t)) = (l.take (p + 1)).length := by
        rw [List.countP_eq_length]
        intro x hx
        obtain ⟨q, hq, rfl⟩ := List.getElem_of_mem hx
        rw [List.length_take] at hq
        rw [List.getElem_take]
        have h3 : l[q]'(by omega) ≤ l[p] := by
          rcases Nat.lt_or_ge q p with h0 | h0
          · exact List.pairwise_iff_getElem.1 hl q p (by omega) hp2 h0
          · have : q = p := by omega
            subst this; exact Int.le_refl _
        simp; omega
      rw [a1, List.length_take]; omega
    omega
  · exact h
/-- It is in it just if it stands at its rank. -/
theorem mem_rk {l : List Int} {t : Int} (hl : l.Pairwise (· ≤ ·)) : t ∈ l ↔ rk l t < l.length ∧ l.getD (rk l t) 0 = t := by
  constructor
  · intro h
    obtain ⟨p, hp, rfl⟩ := List.getElem_of_mem h
    have e1 : l.getD p 0 = l[p] := by simp [List.getD_eq_getElem?_getD, List.getElem?_eq_getElem hp]
    have h1 : rk l l[p] ≤ p := by
      rcases Nat.lt_or_ge p (rk l l[p]) with h2 | h2
      · have := (rk_lt hl h2).1; omega
      · exact h2
    refine ⟨by omega, ?_⟩
    have h2 := rk_ge hl (Nat.le_refl (rk l l[p])) (by omega)
    have h3 : l.getD (rk l l[p]) 0 ≤ l[p] := by
      have e2 : l.getD (rk l l[p]) 0 = l[rk l l[p]]'(by omega) := by simp [List.getD_eq_getElem?_getD, List.getElem?_eq_getElem (show rk l l[p] < l.length by omega)]
      rw [e2]
      rcases Nat.lt_or_ge (rk l l[p]) p with h3 | h3
      · exact List.pairwise_iff_getElem.1 hl _ p (by omega) hp h3
      · have : rk l l[p] = p := by omega
        simp only [this]; exact Int.le_refl _
    omega
  · rintro ⟨h1, h2⟩
    rw [← h2]
    have e1 : l.getD (rk l t) 0 = l[rk l t] := by simp [List.getD_eq_getElem?_getD, List.getElem?_eq_getElem h1]
    rw [e1]; exact List.getElem_mem _
theorem rises_le {l : List Int} (h : l.Pairwise (· < ·)) : l.Pairwise (· ≤ ·) := h.imp (fun h => Int.le_of_lt h)
end Go.Proofs.Ytfioekkegihkoaa

/- Parts of slices of whole numbers; a new block of slices. No program in sight. -/
namespace Go.Proofs.Ytfioekkegihkoaa
open Go.RowKit
set_option linter.unusedVariables false
set_option linter.unusedSimpArgs false
section
variable {k : IntKind} {w w' : World} {v : Value} {l : List Int} {ls : List (List Int)}
theorem ISl.take {a : Option Addr} {n cap : Nat} (h : ISl k w (.slice a n cap) l) {i : Nat} (hi : i ≤ n) : ISl k w (.slice a i cap) (l.take i) := by
  obtain ⟨a', cap', he, h1, h2, h3, h4⟩ := h
  injection he with e1 e2 e3; subst e1 e2 e3
  have hl : (l.take i).length = i := by rw [List.length_take]; omega
  refine ⟨a, cap, by rw [hl], by omega, h2, h3, ?_⟩
  rcases h4 with rfl | ⟨b, off, rfl, h5⟩
  · exact .inl (by simp)
  · exact .inr ⟨b, off, rfl, fun j x hx => h5 j x (by
      have : j < i := by have := (List.getElem?_eq_some_iff.1 hx).1; omega
      rwa [List.getElem?_take_of_lt this] at hx)⟩
theorem ISl.drop {b off n cap : Nat} (h : ISl k w (.slice (some ⟨b, off, none⟩) n cap) l) {i : Nat} (hi : i ≤ n) : ISl k w (.slice (some ⟨b, off + i, none⟩) (n - i) (cap - i)) (l.drop i) := by
  obtain ⟨a', cap', he, h1, h2, h3, h4⟩ := h
  injection he with e1 e2 e3; subst e1 e2 e3
  have hl : (l.drop i).length = l.length - i := by rw [List.length_drop]
  refine ⟨_, _, by rw [hl], by omega, by omega, by simp, ?_⟩
  rcases h4 with rfl | ⟨b', off', he, h5⟩
  · exact .inl (by simp)
  · injection he with he
    injection he with h6 h7
    subst h6 h7
    refine .inr ⟨b, off + i, rfl, fun j x hx => ?_⟩
    rw [Nat.add_assoc]
    exact h5 (i + j) x (by rwa [List.getElem?_drop] at hx)
theorem ISl.end_ (k : IntKind) (w : World) (a : Option Addr) (c : Nat) (hc : c ≤ 9223372036854775807) (ha : a = none → c = 0) : ISl k w (.slice a 0 c) [] := ⟨a, c, rfl, Nat.zero_le _, hc, ha, .inl rfl⟩
theorem ISl.one {b t : Nat} {x : Int} (h : Blk w b t #[.int k x]) : ISl k w (.slice (some ⟨b, 0, none⟩) 1 1) [x] :=
  ⟨_, _, rfl, Nat.le_refl _, by omega, by simp, .inr ⟨b, 0, rfl, fun i y hy => by
    have hi : i < 1 := (List.getElem?_eq_some_iff.1 hy).1
    obtain rfl : i = 0 := by omega
    rw [h.cell]; simpa using hy⟩⟩
/-- How a part from i on is spelled: at the very end the place stays. -/
theorem ISl.tail {b off n cap : Nat} (h : ISl k w (.slice (some ⟨b, off, none⟩) n cap) l) {i : Nat} (hi : i ≤ n) (a : Option Addr) (ha : a = some ⟨b, if cap - i = 0 then off else off + i, none⟩) : ISl k w (.slice a (n - i) (cap - i)) (l.drop i) := by
  subst ha
  obtain ⟨a', cap', he, h1, h2, _⟩ := id h
  injection he with e1 e2 e3
  split
  · have hd : l.drop i = [] := List.drop_eq_nil_iff.2 (by omega)
    rw [hd, show n - i = 0 by omega]
    exact ISl.end_ k w _ _ (by omega) (by simp)
  · exact h.drop hi
theorem LSl.two {b t : Nat} {u1 u2 : Value} {l1 l2 : List Int} (hb : Blk w b t #[u1, u2]) (h1 : ISl k w u1 l1) (h2 : ISl k w u2 l2) : LSl k w (.slice (some ⟨b, 0, none⟩) 2 2) [l1, l2] :=
  LSl.of_blk (ls := [l1, l2]) hb (by simp) (by simp) (fun i l hi => by
    match i with
    | 0 => simp at hi; subst hi; exact ⟨u1, rfl, h1⟩
    | 1 => simp at hi; subst hi; exact ⟨u2, rfl, h2⟩
    | i + 2 => simp at hi)
theorem LSl.three {b t : Nat} {u1 u2 u3 : Value} {l1 l2 l3 : List Int} (hb : Blk w b t #[u1, u2, u3]) (h1 : ISl k w u1 l1) (h2 : ISl k w u2 l2) (h3 : ISl k w u3 l3) : LSl k w (.slice (some ⟨b, 0, none⟩) 3 3) [l1, l2, l3] :=
  LSl.of_blk (ls := [l1, l2, l3]) hb (by simp) (by simp) (fun i l hi => by
    match i with
    | 0 => simp at hi; subst hi; exact ⟨u1, rfl, h1⟩
    | 1 => simp at hi; subst hi; exact ⟨u2, rfl, h2⟩
    | 2 => simp at hi; subst hi; exact ⟨u3, rfl, h3⟩
    | i + 3 => simp at hi)
theorem LSl.drew (h : LSl k w v ls) : LSl k w.drew v ls := h
theorem LSl.new2 {b t : Nat} {u1 u2 : Value} {l1 l2 : List Int} (hb : w.heap.size = b) (h1 : ISl k w u1 l1) (h2 : ISl k w u2 l2) : LSl k (w.alloc (.cells #[u1, u2] t)) (.slice (some ⟨b, 0, none⟩) 2 2) [l1, l2] :=
  LSl.two (Blk.new' hb _ _) (h1.alloc _) (h2.alloc _)
theorem LSl.new3 {b t : Nat} {u1 u2 u3 : Value} {l1 l2 l3 : List Int} (hb : w.heap.size = b) (h1 : ISl k w u1 l1) (h2 : ISl k w u2 l2) (h3 : ISl k w u3 l3) : LSl k (w.alloc (.cells #[u1, u2, u3] t)) (.slice (some ⟨b, 0, none⟩) 3 3) [l1, l2, l3] :=
  LSl.three (Blk.new' hb _ _) (h1.alloc _) (h2.alloc _) (h3.alloc _)
theorem ISl.news (h : ISl k w v l) (hm : Mod [] w w') : ISl k w' v l := h.mod hm (fun _ _ => List.not_mem_nil)
end
/-- With a number. -/
def insL (l : List Int) (t : Int) : List Int := l.take (rk l t) ++ [t] ++ l.drop (rk l t)
/-- Without the one at its place. -/
def delL (l : List Int) (t : Int) : List Int := l.take (rk l t) ++ l.drop (rk l t + 1)
section
variable {l : List Int} {t : Int}
theorem insL_mem {x : Int} : x ∈ insL l t ↔ x = t ∨ x ∈ l := by
  unfold insL
  have e : x ∈ l ↔ x ∈ l.take (rk l t) ∨ x ∈ l.drop (rk l t) := by
    rw [← List.mem_append, List.take_append_drop]
  simp only [List.mem_append, List.mem_singleton, e]
  constructor
  · rintro ((h | h) | h)
    · exact .inr (.inl h)
    · exact .inl h
    · exact .inr (.inr h)
  · rintro (h | h | h)
    · exact .inl (.inr h)
    · exact .inl (.inl h)
    · exact .inr h
theorem get_at {l : List Int} {p : Nat} (h : p < l.length) : l.getD p 0 = l[p] := by simp [List.getD_eq_getElem?_getD, List.getElem?_eq_getElem h]
theorem mem_take_lt (hl : l.Pairwise (· ≤ ·)) {x : Int} (hx : x ∈ l.take (rk l t)) : x < t := by
  obtain ⟨p, hp, rfl⟩ := List.getElem_of_mem hx
  rw [List.length_take] at hp
  rw [List.getElem_take, ← get_at (by omega)]
  exact (rk_lt hl (by omega)).1
theorem mem_drop_ge (hl : l.Pairwise (· ≤ ·)) {x : Int} (hx : x ∈ l.drop (rk l t)) : t ≤ x := by
  obtain ⟨p, hp, rfl⟩ := List.getElem_of_mem hx
  rw [List.length_drop] at hp
  rw [List.getElem_drop, ← get_at (by omega)]
  exact rk_ge hl (by omega) (by omega)
theorem insL_rises (hl : l.Pairwise (· < ·)) (ht : t ∉ l) : (insL l t).Pairwise (· < ·) := by
  unfold insL
  have hd : ∀ x ∈ l.drop (rk l t), t < x := fun x hx => by
    have h1 := mem_drop_ge (rises_le hl) hx
    have h2 : x ≠ t := by rintro rfl; exact ht (List.mem_of_mem_drop hx)
    omega
  rw [List.append_assoc, List.pairwise_append]
  refine ⟨hl.sublist (List.take_sublist _ _), ?_, fun x hx y hy => ?_⟩
  · simp only [List.singleton_append, List.pairwise_cons]
    exact ⟨hd, hl.sublist (List.drop_sublist _ _)⟩
  · have h1 := mem_take_lt (rises_le hl) hx
    simp only [List.singleton_append, List.mem_cons] at hy
    rcases hy with rfl | hy
    · exact h1
    · have := hd y hy; omega
theorem insL_asc (hl : l.Pairwise (· < ·)) (ht : t ∉ l) : insL l t = asc (t :: l) :=
  (asc_eq (insL_rises hl ht) (fun x => by rw [insL_mem]; simp)).symm
theorem drop_at (hl : l.Pairwise (· < ·)) (ht : t ∈ l) : l.drop (rk l t) = t :: l.drop (rk l t + 1) := by
  obtain ⟨h1, h2⟩ := (mem_rk (rises_le hl)).1 ht
  rw [get_at h1] at h2
  rw [List.drop_eq_getElem_cons h1, h2]
theorem delL_mem (hl : l.Pairwise (· < ·)) (ht : t ∈ l) {x : Int} : x ∈ delL l t ↔ x ∈ l ∧ x ≠ t := by
  unfold delL
  have hd := drop_at hl ht
  have e : x ∈ l ↔ x ∈ l.take (rk l t) ∨ x ∈ l.drop (rk l t) := by
    rw [← List.mem_append, List.take_append_drop]
  have hp : (t :: l.drop (rk l t + 1)).Pairwise (· < ·) := by rw [← hd]; exact hl.sublist (List.drop_sublist _ _)
  rw [List.pairwise_cons] at hp
  rw [e, hd]
  simp only [List.mem_append, List.mem_cons]
  constructor
  · rintro (h | h)
    · have := mem_take_lt (rises_le hl) h; exact ⟨.inl h, by omega⟩
    · have := hp.1 x h; exact ⟨.inr (.inr h), by omega⟩
  · rintro ⟨h | h | h, hne⟩
    · exact .inl h
    · exact absurd h hne
    · exact .inr h
theorem delL_rises (hl : l.Pairwise (· < ·)) : (delL l t).Pairwise (· < ·) := by
  have : (delL l t).Sublist l := by
    unfold delL
    conv => rhs; rw [← List.take_append_drop (rk l t) l]
    refine List.Sublist.append (List.Sublist.refl _) ?_
    rw [← List.drop_drop]
    exact List.drop_sublist _ _
  exact hl.sublist this
end
/-- Does it rise? -/
def isr (l : List Int) : Bool := decide (∀ i, i < l.length → 0 < i → l.getD (i - 1) 0 < l.getD i 0)
theorem isr_iff {l : List Int} : isr l = true ↔ l.Pairwise (· < ·) := by
  unfold isr
  rw [decide_eq_true_iff]
  constructor
  · intro h
    rw [List.pairwise_iff_getElem]
    intro i j hi hj hij
    induction j with
    | zero => omega
    | succ j ih =>
      have h1 := h (j + 1) hj (by omega)
      rw [Nat.add_sub_cancel, get_at (by omega), get_at hj] at h1
      rcases Nat.lt_or_ge i j with h2 | h2
      · have := ih (by omega) h2; omega
      · have : i = j := by omega
        subst this; exact h1
  · intro h i hi h0
    rw [get_at (show i - 1 < l.length by omega), get_at hi]
    exact List.pairwise_iff_getElem.1 h _ _ (by omega) hi (by omega)
theorem drewN_add (w : World) (q r : Nat) : (w.drewN q).drewN r = w.drewN (q + r) := by simp [World.drewN, Nat.add_assoc]
/-- A new list of numbers, and a Bool. -/
def RowBool (k : IntKind) (e : Nat) (w : World) (yes : Bool) (l : List Int) (f : Ending) (w' : World) : Prop := ∃ v', f = .returned (.tuple #[v', .bool yes]) ∧ WayI k e w w' v' l.length l
/-- A new list of numbers. -/
def RowOnly (k : IntKind) (e : Nat) (w : World) (l : List Int) (f : Ending) (w' : World) : Prop := ∃ v', f = .returned v' ∧ WayI k e w w' v' l.length l
theorem WayI.after {k : IntKind} {e : Nat} {w w1 w' : World} {v : Value} {n : Nat} {l : List Int} (h : WayI k e w1 w' v n l) (hm : Mod [] w w1) : WayI k e w w' v n l :=
  ⟨h.row, hm.trans h.mod (by simp), fun b hb => Nat.le_trans hm.size (h.ge b hb)⟩
/-- The k-th, if there is one. -/
def selL (l : List Int) (k : Int) : Int × Bool := if 0 ≤ k ∧ k < l.length then (l.getD k.toNat 0, true) else (0, false)
theorem selL_no {l : List Int} {k : Int} (h : ¬ (0 ≤ k ∧ k < l.length)) : selL l k = (0, false) := if_neg h
theorem selL_yes {l : List Int} {k : Nat} (h : k < l.length) : selL l (k : Int) = (l.getD k 0, true) := by unfold selL; rw [if_pos ⟨by omega, by omega⟩]; rfl
/-- A number and a Bool. -/
def IntBool (k : IntKind) (r : Int × Bool) (f : Ending) : Prop := f = .returned (.tuple #[.int k r.1, .bool r.2])
section
variable {k : IntKind} {w w' : World} {v : Value} {l : List Int}
theorem ISl.cons {x : Int} (h : ISl k w v (x :: l)) : ∃ b off cap, v = .slice (some ⟨b, off, none⟩) (l.length + 1) cap ∧ l.length + 1 ≤ cap ∧ cap ≤ 9223372036854775807 ∧ w.cell? ⟨b, off, none⟩ = some (.int k x) ∧
    ISl k w (.slice (if cap = 1 then some ⟨b, off, none⟩ else some ⟨b, off + 1, none⟩) l.length (cap - 1)) l := by
  obtain ⟨b, off, cap, rfl, h1, h2, hb, hc⟩ := h.at_ (by simp)
  refine ⟨b, off, cap, rfl, by simpa using h1, h2, by simpa using hc 0 x rfl, ?_⟩
  have ht := h.tail (i := 1) (by simp) (if cap = 1 then some ⟨b, off, none⟩ else some ⟨b, off + 1, none⟩) (by
    simp at h1
    by_cases hc : cap = 1
    · rw [if_pos hc, if_pos (by omega)]
    · rw [if_neg hc, if_neg (by omega)])
  simpa using ht
theorem ISl.none_ (h : ISl k w v []) : ∃ a cap, v = .slice a 0 cap ∧ cap ≤ 9223372036854775807 := by
  obtain ⟨a, cap, rfl, _, h2, _⟩ := h; exact ⟨a, cap, rfl, h2⟩
end
/-- One step of merging: what sort, which number, what is left. -/
def mst : List Int → List Int → Option (Nat × Int × List Int × List Int)
  | [], [] => none
  | x :: a, [] => some (1, x, a, [])
  | [], y :: b => some (2, y, [], b)
  | x :: a, y :: b => if x < y then some (1, x, a, y :: b) else if y < x then some (2, y, x :: a, b) else some (4, x, a, b)
/-- Merging: f tells of each sort whether it is taken. -/
def mgF (f : Nat → Bool) : Nat → List Int → List Int → List Int
  | 0, _, _ => []
  | n + 1, a, b => match mst a b with
    | none => []
    | some (k, v, a', b') => if f k then v :: mgF f n a' b' else mgF f n a' b'
def mg (f : Nat → Bool) (a b : List Int) : List Int := mgF f (a.length + b.length + 1) a b
theorem mst_less {a b : List Int} {k : Nat} {v : Int} {a' b' : List Int} (h : mst a b = some (k, v, a', b')) : a'.length + b'.length + 1 ≤ a.length + b.length := by
  match a, b with
  | [], [] => simp [mst] at h
  | x :: a, [] => simp [mst] at h; obtain ⟨_, _, rfl, rfl⟩ := h; simp
  | [], y :: b => simp [mst] at h; obtain ⟨_, _, rfl, rfl⟩ := h; simp
  | x :: a, y :: b =>
    simp only [mst] at h
    split at h
    · injection h with h; injection h with _ h; injection h with _ h; injection h with h1 h2; subst h1 h2; simp; omega
    · split at h
      · injection h with h; injection h with _ h; injection h with _ h; injection h with h1 h2; subst h1 h2; simp; omega
      · injection h with h; injection h with _ h; injection h with _ h; injection h with h1 h2; subst h1 h2; simp; omega
theorem mgF_more (f : Nat → Bool) : ∀ (n m : Nat) (a b : List Int), a.length + b.length < n → a.length + b.length < m → mgF f n a b = mgF f m a b
  | 0, _, _, _, h, _ => by omega
  | _ + 1, 0, _, _, _, h => by omega
  | n + 1, m + 1, a, b, h1, h2 => by
    simp only [mgF]
    cases hm : mst a b with
    | none => rfl
    | some p =>
      obtain ⟨k, v, a', b'⟩ := p
      have := mst_less hm
      simp only
      rw [mgF_more f n m a' b' (by omega) (by omega)]
theorem mg_none {f : Nat → Bool} {a b : List Int} (h : mst a b = none) : mg f a b = [] := by unfold mg; simp only [mgF, h]
theorem mg_take {f : Nat → Bool} {a b : List Int} {k : Nat} {v : Int} {a' b' : List Int} (h : mst a b = some (k, v, a', b')) (hf : f k = true) : mg f a b = v :: mg f a' b' := by
  have := mst_less h
  unfold mg
  rw [mgF, h]
  simp only
  rw [if_pos hf, mgF_more f _ (a'.length + b'.length + 1) a' b' (by omega) (by omega)]
theorem mg_skip {f : Nat → Bool} {a b : List Int} {k : Nat} {v : Int} {a' b' : List Int} (h : mst a b = some (k, v, a', b')) (hf : f k = false) : mg f a b = mg f a' b' := by
  have := mst_less h
  unfold mg
  rw [mgF, h]
  simp only
  rw [if_neg (by simp [hf]), mgF_more f _ (a'.length + b'.length + 1) a' b' (by omega) (by omega)]
theorem mg_len (f : Nat → Bool) : ∀ (n : Nat) (a b : List Int), a.length + b.length ≤ n → (mg f a b).length ≤ a.length + b.length := by
  intro n
  induction n with
  | zero =>
    intro a b h
    have ha : a = [] := List.eq_nil_of_length_eq_zero (by omega)
    have hb : b = [] := List.eq_nil_of_length_eq_zero (by omega)
    subst ha hb
    rw [mg_none rfl]; simp
  | succ n ih =>
    intro a b h
    cases hm : mst a b with
    | none => rw [mg_none hm]; simp
    | some p =>
      obtain ⟨k, v, a', b'⟩ := p
      have hl := mst_less hm
      have := ih a' b' (by omega)
      cases hf : f k with
      | true => rw [mg_take hm hf]; simp; omega
      | false => rw [mg_skip hm hf]; omega
/-- What is merged: of the first alone, of the second alone, of both; rising. -/
theorem mg_spec (f : Nat → Bool) : ∀ (n : Nat) (a b : List Int), a.length + b.length ≤ n → a.Pairwise (· < ·) → b.Pairwise (· < ·) →
    (mg f a b).Pairwise (· < ·) ∧ ∀ x, x ∈ mg f a b ↔ (x ∈ a ∧ x ∉ b ∧ f 1 = true) ∨ (x ∉ a ∧ x ∈ b ∧ f 2 = true) ∨ (x ∈ a ∧ x ∈ b ∧ f 4 = true) := by
  have key : ∀ {k : Nat} {v : Int} {a b a' b' : List Int}, mst a b = some (k, v, a', b') → a.Pairwise (· < ·) → b.Pairwise (· < ·) →
      a'.Pairwise (· < ·) ∧ b'.Pairwise (· < ·) ∧ (∀ x, (x ∈ a' ∨ x ∈ b') → v < x) ∧ (∀ x, x ≠ v → ((x ∈ a ↔ x ∈ a') ∧ (x ∈ b ↔ x ∈ b'))) ∧
      ((k = 1 ∧ v ∈ a ∧ v ∉ b) ∨ (k = 2 ∧ v ∉ a ∧ v ∈ b) ∨ (k = 4 ∧ v ∈ a ∧ v ∈ b)) := by
    intro k v a b a' b' h ha hb
    match a, b with
    | [], [] => simp [mst] at h
    | x :: a, [] =>
      simp [mst] at h
      obtain ⟨rfl, rfl, rfl, rfl⟩ := h
      rw [List.pairwise_cons] at ha
      refine ⟨ha.2, hb, fun y hy => ?_, fun y hy => ?_, .inl ⟨rfl, by simp, by simp⟩⟩
      · rcases hy with hy | hy
        · exact ha.1 y hy
        · simp at hy
      · simp [hy]
    | [], y :: b =>
      simp [mst] at h
      obtain ⟨rfl, rfl, rfl, rfl⟩ := h
      rw [List.pairwise_cons] at hb
      refine ⟨ha, hb.2, fun z hz => ?_, fun z hz => ?_, .inr (.inl ⟨rfl, by simp, by simp⟩)⟩
      · rcases hz with hz | hz
        · simp at hz
        · exact hb.1 z hz
      · simp [hz]
    | x :: a, y :: b =>
      have ha0 := ha
      have hb0 := hb
      rw [List.pairwise_cons] at ha hb
      simp only [mst] at h
      split at h
      · rename_i hxy
        injection h with h; injection h with h1 h; injection h with h2 h; injection h with h3 h4; subst h1 h2 h3 h4
        have hnb : x ∉ y :: b := by
          intro hm
          rcases List.mem_cons.1 hm with h | h
          · omega
          · have := hb.1 x h; omega
        refine ⟨ha.2, hb0, fun z hz => ?_, fun z hz => ?_, .inl ⟨rfl, by simp, hnb⟩⟩
        · rcases hz with hz | hz
          · exact ha.1 z hz
          · rcases List.mem_cons.1 hz with h | h
            · omega
            · have := hb.1 z h; omega
        · simp [hz]
      · split at h
        · rename_i hxy hyx
          injection h with h; injection h with h1 h; injection h with h2 h; injection h with h3 h4; subst h1 h2 h3 h4
          have hna : y ∉ x :: a := by
            intro hm
            rcases List.mem_cons.1 hm with h | h
            · omega
            · have := ha.1 y h; omega
          refine ⟨ha0, hb.2, fun z hz => ?_, fun z hz => ?_, .inr (.inl ⟨rfl, hna, by simp⟩)⟩
          · rcases hz with hz | hz
            · rcases List.mem_cons.1 hz with h | h
              · omega
              · have := ha.1 z h; omega
            · exact hb.1 z hz
          · simp [hz]
        · rename_i hxy hyx
          injection h with h; injection h with h1 h; injection h with h2 h; injection h with h3 h4; subst h1 h2 h3 h4
          have e : x = y := by omega
          subst e
          refine ⟨ha.2, hb.2, fun z hz => ?_, fun z hz => ?_, .inr (.inr ⟨rfl, by simp, by simp⟩)⟩
          · rcases hz with hz | hz
            · exact ha.1 z hz
            · exact hb.1 z hz
          · simp [hz]
  intro n
  induction n with
  | zero =>
    intro a b h ha hb
    have ha : a = [] := List.eq_nil_of_length_eq_zero (by omega)
    have hb : b = [] := List.eq_nil_of_length_eq_zero (by omega)
    subst ha hb
    rw [mg_none rfl]; simp
  | succ n ih =>
    intro a b h ha hb
    cases hm : mst a b with
    | none =>
      match a, b with
      | [], [] => rw [mg_none rfl]; simp
      | x :: a, [] => simp [mst] at hm
      | [], y :: b => simp [mst] at hm
      | x :: a, y :: b => simp only [mst] at hm; split at hm; cases hm; split at hm <;> cases hm
    | some p =>
      obtain ⟨k, v, a', b'⟩ := p
      obtain ⟨ha', hb', hlt, hoth, hk⟩ := key hm ha hb
      have hl := mst_less hm
      obtain ⟨i1, i2⟩ := ih a' b' (by omega) ha' hb'
      have hv : ∀ x, x ∈ mg f a' b' → v < x := fun x hx => by
        rcases (i2 x).1 hx with h | h | h
        · exact hlt x (.inl h.1)
        · exact hlt x (.inr h.2.1)
        · exact hlt x (.inl h.1)
      have hva : v ∉ a' := fun h => by have := hlt v (.inl h); omega
      have hvb : v ∉ b' := fun h => by have := hlt v (.inr h); omega
      cases hf : f k with
      | true =>
        rw [mg_take hm hf]
        refine ⟨List.pairwise_cons.2 ⟨hv, i1⟩, fun x => ?_⟩
        by_cases hx : x = v
        · subst hx
          simp only [List.mem_cons, true_or, true_iff]
          rcases hk with ⟨rfl, h1, h2⟩ | ⟨rfl, h1, h2⟩ | ⟨rfl, h1, h2⟩
          · exact .inl ⟨h1, h2, hf⟩
          · exact .inr (.inl ⟨h1, h2, hf⟩)
          · exact .inr (.inr ⟨h1, h2, hf⟩)
        · rw [(hoth x hx).1, (hoth x hx).2, ← i2 x]
          simp [hx]
      | false =>
        rw [mg_skip hm hf]
        refine ⟨i1, fun x => ?_⟩
        by_cases hx : x = v
        · subst hx
          have h0 : x ∉ mg f a' b' := fun h => by have := hv x h; omega
          simp only [h0, false_iff]
          rcases hk with ⟨rfl, h1, h2⟩ | ⟨rfl, h1, h2⟩ | ⟨rfl, h1, h2⟩
          · simp [h1, h2, hf]
          · simp [h1, h2, hf]
          · simp [h1, h2, hf]
        · rw [(hoth x hx).1, (hoth x hx).2, ← i2 x]
theorem mst_kind {a b : List Int} {k : Nat} {v : Int} {a' b' : List Int} (h : mst a b = some (k, v, a', b')) : k = 1 ∨ k = 2 ∨ k = 4 := by
  match a, b with
  | [], [] => simp [mst] at h
  | x :: a, [] => simp [mst] at h; exact .inl h.1.symm
  | [], y :: b => simp [mst] at h; exact .inr (.inl h.1.symm)
  | x :: a, y :: b =>
    simp only [mst] at h
    split at h
    · injection h with h; injection h with h; exact .inl h.symm
    · split at h
      · injection h with h; injection h with h; exact .inr (.inl h.symm)
      · injection h with h; injection h with h; exact .inr (.inr h.symm)
/-- A slice's length. -/
def slen : Value → Nat
  | .slice _ n _ => n
  | _ => 0
theorem slen_slice (a : Option Addr) (n c : Nat) : slen (.slice a n c) = n := rfl
theorem mst_l (x : Int) (a : List Int) : mst (x :: a) [] = some (1, x, a, []) := rfl
theorem mst_r (y : Int) (b : List Int) : mst [] (y :: b) = some (2, y, [], b) := rfl
theorem mst_1 {x y : Int} (a b : List Int) (h : x < y) : mst (x :: a) (y :: b) = some (1, x, a, y :: b) := by simp only [mst]; rw [if_pos h]
theorem mst_2 {x y : Int} (a b : List Int) (h1 : ¬ x < y) (h : y < x) : mst (x :: a) (y :: b) = some (2, y, x :: a, b) := by simp only [mst]; rw [if_neg h1, if_pos h]
theorem mst_4 {x y : Int} (a b : List Int) (h1 : ¬ x < y) (h : ¬ y < x) : mst (x :: a) (y :: b) = some (4, x, a, b) := by simp only [mst]; rw [if_neg h1, if_neg h]
theorem ISl.of_blk {k : IntKind} {w : World} {b t : Nat} {l : List Int} (hb : Blk w b t (icells k l).toArray) (hl : l.length ≤ 1000000) : ISl k w (.slice (some ⟨b, 0, none⟩) l.length l.length) l :=
  ⟨_, _, rfl, Nat.le_refl _, by omega, by simp, .inr ⟨b, 0, rfl, fun i x hx => by
    rw [Nat.zero_add, hb.cell]
    have := icells_get (k := k) hx
    simpa using this⟩⟩
theorem wf_u16 {x : Int} (h : (Lit.int .u16 x).wf = true) : 0 ≤ x ∧ x < 65536 := by
  simp only [Lit.wf, decide_eq_true_eq, Bool.and_eq_true] at h
  have h1 : IntKind.min .u16 = 0 := by decide
  have h2 : IntKind.max .u16 = 65535 := by decide
  rw [h1, h2] at h
  omega
theorem wf_u64 {x : Int} (h : (Lit.int .u64 x).wf = true) : 0 ≤ x ∧ x ≤ 18446744073709551615 := by
  simp only [Lit.wf, decide_eq_true_eq, Bool.and_eq_true] at h
  have h1 : IntKind.min .u64 = 0 := by decide
  have h2 : IntKind.max .u64 = 18446744073709551615 := by decide
  rw [h1, h2] at h
  exact h
end Go.Proofs.Ytfioekkegihkoaa
