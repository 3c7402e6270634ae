/- A row of whole numbers that is being sorted: what stands in its cells, what else may have turned. No program in sight. -/
import Derived.Test.YthcjnijggebcaaaLib
import Derived.Sort.AssemblyPlain
import Derived.Sort.Row
import Derived.CellFam
import Derived.Deep.LoopGhost
import Derived.Deep.DeepCutAuto
import Derived.Deep.CutBlock
import Derived.BigGuard
import Derived.BigCall
namespace Go.Proofs.Ythcjnijggebcaaa
open Go.RowKit
set_option linter.unusedVariables false
set_option linter.unusedSimpArgs false
/-- Behind w0, w: the row of n elements at place o of block b (sz cells of type e) holds d; of what was in w0 only block b may have turned. -/
structure SR (k : IntKind) (e sz b o n : Nat) (w0 w : World) (d : Array Int) : Prop where
  size : d.size = n
  mod : Mod [b] w0 w
  blk : ∃ cs, Blk w b e cs ∧ cs.size = sz ∧ ∀ t, t < n → cs[o + t]? = some (.int k d[t]!)
section
variable {k : IntKind} {e sz b o n : Nat} {w0 w w' : World} {d : Array Int}
theorem SR.cell (h : SR k e sz b o n w0 w d) {t : Nat} (ht : t < n) : w.cell? ⟨b, o + t, none⟩ = some (.int k d[t]!) := by
  obtain ⟨cs, h1, h2, h3⟩ := h.blk
  rw [h1.cell]; exact h3 t ht
theorem SR.free (h : SR k e sz b o n w0 w d) (t : Nat) : w.frozen? ⟨b, t, none⟩ = false := by
  obtain ⟨cs, h1, h2, h3⟩ := h.blk
  exact h1.frozen t
theorem SR.lt (h : SR k e sz b o n w0 w d) : b < w.heap.size := by
  obtain ⟨cs, h1, h2, h3⟩ := h.blk
  exact h1.lt
theorem SR.drew (h : SR k e sz b o n w0 w d) : SR k e sz b o n w0 w.drew d := ⟨h.size, h.mod.drew, h.blk⟩
theorem SR.drewN (h : SR k e sz b o n w0 w d) (q : Nat) : SR k e sz b o n w0 (w.drewN q) d := ⟨h.size, h.mod.drewN q, h.blk⟩
theorem SR.step (h : SR k e sz b o n w0 w d) (hm : Mod [] w w') : SR k e sz b o n w0 w' d := by
  obtain ⟨cs, h1, h2, h3⟩ := h.blk
  exact ⟨h.size, h.mod.trans hm (by simp), cs, h1.mod hm (by simp), h2, h3⟩
theorem SR.alloc (h : SR k e sz b o n w0 w d) (ob : Obj) : SR k e sz b o n w0 (w.alloc ob) d := h.step ((Mod.refl [] w).alloc ob)
theorem SR.far (h : SR k e sz b o n w0 w d) {p : Addr} (hp : p.block ≠ b) (hq : w0.heap.size ≤ p.block) (u : Value) : SR k e sz b o n w0 (w.setCell p u) d := by
  obtain ⟨cs, h1, h2, h3⟩ := h.blk
  exact ⟨h.size, h.mod.set (.inr hq) u, cs, h1.far (Ne.symm hp) u, h2, h3⟩
theorem SR.set (h : SR k e sz b o n w0 w d) {i : Nat} (hi : i < n) (x : Int) : SR k e sz b o n w0 (w.setCell ⟨b, o + i, none⟩ (.int k x)) (d.setIfInBounds i x) := by
  obtain ⟨cs, h1, h2, h3⟩ := h.blk
  refine ⟨by simp [h.size], h.mod.set (by simp) _, _, h1.set _ _, by simp [h2], fun t ht => ?_⟩
  have hz := h.size
  by_cases hit : i = t
  · subst hit
    have h4 := h3 i hi
    have h5 : o + i < cs.size := (Array.getElem?_eq_some_iff.1 h4).1
    rw [Array.getElem?_setIfInBounds, if_pos rfl, if_pos h5, Sort.getElem!_set_same d i x (by omega)]
  · rw [Array.getElem?_setIfInBounds, if_neg (by omega), h3 t ht, Sort.getElem!_set_other d i t x (fun hh => hit hh.symm)]
theorem SR.swp (h : SR k e sz b o n w0 w d) {i j : Nat} (hi : i < n) (hj : j < n) :
    SR k e sz b o n w0 ((w.setCell ⟨b, o + i, none⟩ (.int k d[j]!)).setCell ⟨b, o + j, none⟩ (.int k d[i]!)) (Sort.swp d i j) := (h.set hi _).set hj _
/-- The same, the cells' contents under names of their own. -/
theorem SR.swp' (h : SR k e sz b o n w0 w d) {i j : Nat} {x y : Int} (hi : i < n) (hj : j < n) (hx : x = d[i]!) (hy : y = d[j]!) :
    SR k e sz b o n w0 ((w.setCell ⟨b, o + i, none⟩ (.int k y)).setCell ⟨b, o + j, none⟩ (.int k x)) (Sort.swp d i j) := by subst hx hy; exact h.swp hi hj
/-- The same, the places as the walk spells them. -/
theorem SR.swpa (h : SR k e sz b o n w0 w d) {i j p q : Nat} {x y : Int} (hp : p = o + i) (hq : q = o + j) (hi : i < n) (hj : j < n) (hx : x = d[i]!) (hy : y = d[j]!) :
    SR k e sz b o n w0 ((w.setCell ⟨b, p, none⟩ (.int k y)).setCell ⟨b, q, none⟩ (.int k x)) (Sort.swp d i j) := by subst hp hq hx hy; exact h.swp hi hj
/-- Both families, the contents under a name. -/
theorem SR.fam (h : SR k e sz b o n w0 w d) : ∃ G : Nat → Int, (∀ t i, t = i → G t = d[i]!) ∧ (∀ t, t < n → w.cell? ⟨b, o + t, none⟩ = some (.int k (G t))) ∧ (∀ t, t < n → w.frozen? ⟨b, o + t, none⟩ = false) :=
  ⟨fun t => d[t]!, fun t i h => by rw [h], fun t ht => h.cell ht, fun t _ => h.free _⟩
end
theorem ins_go {lt : Int → Int → Bool} {a j : Nat} {d : Array Int} (hj : a < j) (hl : lt d[j]! d[j - 1]! = true) : Sort.insInner lt a j d = Sort.insInner lt a (j - 1) (Sort.swp d j (j - 1)) := by
  obtain ⟨i, rfl⟩ : ∃ i, j = i + 1 := ⟨j - 1, by omega⟩
  simp only [Nat.add_sub_cancel] at hl ⊢
  rw [Sort.insInner, if_pos (by simp [hl]; omega)]
theorem ins_stop {lt : Int → Int → Bool} {a j : Nat} {d : Array Int} (h : j ≤ a ∨ lt d[j]! d[j - 1]! = false) : Sort.insInner lt a j d = d := by
  cases j with
  | zero => rfl
  | succ i =>
    simp only [Nat.add_sub_cancel] at h
    rw [Sort.insInner, if_neg]
    rcases h with h | h
    · simp; intro h2; omega
    · simp [h]
theorem sd_end {lt : Int → Int → Bool} {hi F root : Nat} (d : Array Int) (h : hi ≤ 2 * root + 1) : Sort.siftDown lt hi F root d = d := by rw [Sort.siftDown, dif_pos h]
/-- Child c is the one that is asked. -/
def Child (lt : Int → Int → Bool) (hi F root c : Nat) (d : Array Int) : Prop :=
  (c = 2 * root + 2 ∧ 2 * root + 2 < hi ∧ lt d[F + (2 * root + 1)]! d[F + (2 * root + 2)]! = true) ∨ (c = 2 * root + 1 ∧ 2 * root + 1 < hi ∧ (2 * root + 2 < hi → lt d[F + (2 * root + 1)]! d[F + (2 * root + 2)]! = false))
theorem sd_stop {lt : Int → Int → Bool} {hi F root c : Nat} {d : Array Int} (hc : Child lt hi F root c d) (h : lt d[F + root]! d[F + c]! = false) : Sort.siftDown lt hi F root d = d := by
  rcases hc with ⟨rfl, h1, h2⟩ | ⟨rfl, h1, h2⟩
  · rw [Sort.siftDown, dif_neg (by omega), show F + (2 * root + 1) + 1 = F + (2 * root + 2) by omega, h2, h]
    simp [show 2 * root + 1 + 1 < hi by omega]
  · rw [Sort.siftDown, dif_neg (by omega), show F + (2 * root + 1) + 1 = F + (2 * root + 2) by omega, h]
    by_cases hh : 2 * root + 2 < hi
    · simp [h2 hh]
    · simp [show ¬ 2 * root + 1 + 1 < hi by omega]
theorem sd_go {lt : Int → Int → Bool} {hi F root c : Nat} {d : Array Int} (hc : Child lt hi F root c d) (h : lt d[F + root]! d[F + c]! = true) :
    Sort.siftDown lt hi F root d = Sort.siftDown lt hi F c (Sort.swp d (F + root) (F + c)) := by
  rcases hc with ⟨rfl, h1, h2⟩ | ⟨rfl, h1, h2⟩
  · rw [Sort.siftDown, dif_neg (by omega), show F + (2 * root + 1) + 1 = F + (2 * root + 2) by omega, h2, h]
    simp [show 2 * root + 1 + 1 < hi by omega]
  · rw [Sort.siftDown, dif_neg (by omega), show F + (2 * root + 1) + 1 = F + (2 * root + 2) by omega, h]
    by_cases hh : 2 * root + 2 < hi
    · simp [h2 hh]
    · simp [show ¬ 2 * root + 1 + 1 < hi by omega]
theorem rev_go {i j : Nat} {d : Array Int} (h : i < j) : Sort.reverseLoop i j d = Sort.reverseLoop (i + 1) (j - 1) (Sort.swp d i j) := by rw [Sort.reverseLoop, if_pos h]
theorem rev_stop {i j : Nat} {d : Array Int} (h : ¬ i < j) : Sort.reverseLoop i j d = d := by rw [Sort.reverseLoop, if_neg h]
theorem half_at {a c : Nat} (h : a ≤ c) : ((c : Int) - (a : Int) - 1).tdiv 2 = (((c - a - 1) / 2 + 1 : Nat) : Int) - 1 := by
  by_cases h : a = c
  · subst h; rw [show ((a : Int) - (a : Int) - 1) = -1 by omega]; simp
  · rw [Int.tdiv_eq_ediv_of_nonneg (by omega)]; omega
section
variable {p : Int → Bool} {d : Array Int} {i j : Nat}
theorem sup_go (h : i ≤ j) (hp : p d[i]! = true) : Sort.scanUp p d j i = Sort.scanUp p d j (i + 1) := by rw [Sort.scanUp, if_pos (by simp [h, hp])]
theorem sup_stop (h : i ≤ j → p d[i]! = false) : Sort.scanUp p d j i = i := by
  rw [Sort.scanUp, if_neg]
  by_cases hh : i ≤ j
  · simp [h hh]
  · simp [hh]
theorem sdn_go (h0 : 1 ≤ j) (h : i ≤ j) (hp : p d[j]! = true) : Sort.scanDown p d i j = Sort.scanDown p d i (j - 1) := by
  obtain ⟨j, rfl⟩ : ∃ k, j = k + 1 := ⟨j - 1, by omega⟩
  rw [Sort.scanDown, if_pos (by simp [h, hp])]; rfl
theorem scan_lt {q : Int → Bool} {I K : Nat} (hq : ∀ x, q x = !p x) (hI : Sort.scanUp p d j i = I) (hK : Sort.scanDown q d I j = K) (h0 : 0 < I) (h : ¬ K < I) : I < K := by
  rcases Nat.lt_or_ge I K with h1 | h1
  · exact h1
  have e : I = K := by omega
  have h2 := (Sort.scanUp_spec p d j _ i rfl).2.2.2
  have h3 := (Sort.scanDown_spec q d I j)
  rw [hI] at h2
  rw [hK] at h3
  have h4 := h2 (by have := h3.1; omega)
  have h5 := h3.2.2.2 (by omega) (by omega)
  rw [← e, hq, h4] at h5
  simp at h5
theorem sdn_stop (h : i ≤ j → p d[j]! = false) : Sort.scanDown p d i j = j := by
  cases j with
  | zero => rfl
  | succ j =>
    rw [Sort.scanDown, if_neg]
    by_cases hh : i ≤ j + 1
    · simp [h hh]
    · simp [hh]
end
section
variable {lt : Int → Int → Bool} {d d1 : Array Int} {a c p I J m : Nat} {d2 : Array Int}
theorem part_one (h1 : Sort.swp d a p = d1) (hI : Sort.scanUp (fun x => lt x d1[a]!) d1 (c - 1) (a + 1) = I) (hJ : Sort.scanDown (fun x => !lt x d1[a]!) d1 I (c - 1) = J) (h : J < I) :
    Sort.partition lt d a c p = (J, true, Sort.swp d1 J a) := by
  unfold Sort.partition
  simp only [h1, hI, hJ]
  rw [if_pos h]
theorem part_two (h1 : Sort.swp d a p = d1) (hI : Sort.scanUp (fun x => lt x d1[a]!) d1 (c - 1) (a + 1) = I) (hJ : Sort.scanDown (fun x => !lt x d1[a]!) d1 I (c - 1) = J) (h : ¬ J < I)
    (hr : Sort.partLoop lt a (I + 1) (J - 1) (Sort.swp d1 I J) = (m, d2)) : Sort.partition lt d a c p = (m, false, Sort.swp d2 m a) := by
  unfold Sort.partition
  simp only [h1, hI, hJ]
  rw [if_neg h, hr]
theorem pl_stop {i j : Nat} (hI : Sort.scanUp (fun x => lt x d[a]!) d j i = I) (hJ : Sort.scanDown (fun x => !lt x d[a]!) d I j = J) (h : J < I) : Sort.partLoop lt a i j d = (J, d) := by
  rw [Sort.partLoop_eq, hI, hJ, if_pos h]
theorem pl_go {i j : Nat} (hI : Sort.scanUp (fun x => lt x d[a]!) d j i = I) (hJ : Sort.scanDown (fun x => !lt x d[a]!) d I j = J) (h : ¬ J < I) : Sort.partLoop lt a i j d = Sort.partLoop lt a (I + 1) (J - 1) (Sort.swp d I J) := by
  rw [Sort.partLoop_eq, hI, hJ, if_neg h]
theorem pe_stop {i j : Nat} (hI : Sort.scanUp (fun x => !lt d[a]! x) d j i = I) (hJ : Sort.scanDown (fun x => lt d[a]! x) d I j = J) (h : J < I) : Sort.partEqLoop lt a i j d = (I, d) := by
  rw [Sort.partEqLoop_eq, hI, hJ, if_pos h]
theorem pe_go {i j : Nat} (hI : Sort.scanUp (fun x => !lt d[a]! x) d j i = I) (hJ : Sort.scanDown (fun x => lt d[a]! x) d I j = J) (h : ¬ J < I) : Sort.partEqLoop lt a i j d = Sort.partEqLoop lt a (I + 1) (J - 1) (Sort.swp d I J) := by
  rw [Sort.partEqLoop_eq, hI, hJ, if_neg h]
end
section
variable {lt : Int → Int → Bool} {d d1 d2 d3 : Array Int} {a c i j s : Nat}
theorem shd_go (h0 : 1 ≤ j) (h : lt d[j]! d[j - 1]! = true) : Sort.shiftDown lt j d = Sort.shiftDown lt (j - 1) (Sort.swp d j (j - 1)) := by
  obtain ⟨j, rfl⟩ : ∃ k, j = k + 1 := ⟨j - 1, by omega⟩
  simp only [Nat.add_sub_cancel] at h ⊢
  rw [Sort.shiftDown, if_neg (by simp [h])]
theorem shd_stop (h : 1 ≤ j → lt d[j]! d[j - 1]! = false) : Sort.shiftDown lt j d = d := by
  cases j with
  | zero => rfl
  | succ j =>
    have h := h (by omega)
    simp only [Nat.add_sub_cancel] at h
    rw [Sort.shiftDown, if_pos (by simp [h])]
theorem shu_go (h0 : j < c) (h : lt d[j]! d[j - 1]! = true) : Sort.shiftUp lt c j d = Sort.shiftUp lt c (j + 1) (Sort.swp d j (j - 1)) := by
  rw [Sort.shiftUp, if_pos h0, if_neg (by simp [h])]
theorem shu_stop (h : j < c → lt d[j]! d[j - 1]! = false) : Sort.shiftUp lt c j d = d := by
  rw [Sort.shiftUp]
  by_cases hh : j < c
  · rw [if_pos hh, if_pos (by simp [h hh])]
  · rw [if_neg hh]
theorem sso_go (h0 : i < c) (h : lt d[i]! d[i - 1]! = false) : Sort.scanSorted lt d c i = Sort.scanSorted lt d c (i + 1) := by
  rw [Sort.scanSorted, if_pos (by simp [h0, h])]
theorem sso_stop (h : i < c → lt d[i]! d[i - 1]! = true) : Sort.scanSorted lt d c i = i := by
  rw [Sort.scanSorted, if_neg]
  by_cases hh : i < c
  · simp [h hh]
  · simp [hh]
theorem pi_done (h : Sort.scanSorted lt d c i = j) (hj : j = c) : Sort.partialIns lt a c (s + 1) i d = (d, true) := by
  rw [Sort.partialIns]; simp only [h]; rw [if_pos hj]
theorem pi_short (h : Sort.scanSorted lt d c i = j) (hj : ¬ j = c) (hs : c - a < 50) : Sort.partialIns lt a c (s + 1) i d = (d, false) := by
  rw [Sort.partialIns]; simp only [h]; rw [if_neg hj, if_pos hs]
theorem pi_go (h : Sort.scanSorted lt d c i = j) (hj : ¬ j = c) (hs : ¬ c - a < 50) (h2 : (if j - a ≥ 2 then Sort.shiftDown lt (j - 1) (Sort.swp d j (j - 1)) else Sort.swp d j (j - 1)) = d2)
    (h3 : (if c - j ≥ 2 then Sort.shiftUp lt c (j + 1) d2 else d2) = d3) : Sort.partialIns lt a c (s + 1) i d = Sort.partialIns lt a c s j d3 := by
  rw [Sort.partialIns]; simp only [h]; rw [if_neg hj, if_neg hs]; simp only [h2, h3]
end
/-- Beside the row a counter in a box of the call's own. -/
structure SP (k : IntKind) (e sz b o n : Nat) (w0 w : World) (d : Array Int) (s m : Nat) : Prop where
  row : SR k e sz b o n w0 w d
  box : ∃ t, Blk w s t #[.int .i64 m]
  ne : s ≠ b
  ge : w0.heap.size ≤ s
section
variable {k : IntKind} {e sz b o n s m : Nat} {w0 w w' : World} {d : Array Int}
theorem SP.drewN (h : SP k e sz b o n w0 w d s m) (q : Nat) : SP k e sz b o n w0 (w.drewN q) d s m := ⟨h.row.drewN q, h.box, h.ne, h.ge⟩
theorem SP.put (h : SP k e sz b o n w0 w d s m) (m' : Nat) : SP k e sz b o n w0 (w.setCell ⟨s, 0, none⟩ (.int .i64 m')) d s m' := by
  obtain ⟨t, hb⟩ := h.box
  exact ⟨h.row.far h.ne h.ge _, ⟨t, by simpa using hb.set 0 (.int .i64 m')⟩, h.ne, h.ge⟩
theorem SP.cell (h : SP k e sz b o n w0 w d s m) : w.cell? ⟨s, 0, none⟩ = some (.int .i64 m) := by obtain ⟨t, hb⟩ := h.box; exact hb.cell 0
theorem SP.free (h : SP k e sz b o n w0 w d s m) : w.frozen? ⟨s, 0, none⟩ = false := by obtain ⟨t, hb⟩ := h.box; exact hb.frozen 0
theorem SP.lt (h : SP k e sz b o n w0 w d s m) : s < w.heap.size := by obtain ⟨t, hb⟩ := h.box; exact hb.lt
end
/-- Beside the row any one cell in a box of the call's own. -/
structure SQ (k : IntKind) (e sz b o n : Nat) (w0 w : World) (d : Array Int) (s : Nat) (v : Value) : Prop where
  row : SR k e sz b o n w0 w d
  box : ∃ t, Blk w s t #[v]
  ne : s ≠ b
  ge : w0.heap.size ≤ s
section
variable {k : IntKind} {e sz b o n s : Nat} {w0 w w' : World} {d : Array Int} {v : Value}
theorem SQ.drewN (h : SQ k e sz b o n w0 w d s v) (q : Nat) : SQ k e sz b o n w0 (w.drewN q) d s v := ⟨h.row.drewN q, h.box, h.ne, h.ge⟩
theorem SQ.drew (h : SQ k e sz b o n w0 w d s v) : SQ k e sz b o n w0 w.drew d s v := ⟨h.row.drew, h.box, h.ne, h.ge⟩
theorem SQ.put (h : SQ k e sz b o n w0 w d s v) (u : Value) : SQ k e sz b o n w0 (w.setCell ⟨s, 0, none⟩ u) d s u := by
  obtain ⟨t, hb⟩ := h.box
  exact ⟨h.row.far h.ne h.ge _, ⟨t, by simpa using hb.set 0 u⟩, h.ne, h.ge⟩
theorem SQ.cell (h : SQ k e sz b o n w0 w d s v) : w.cell? ⟨s, 0, none⟩ = some v := by obtain ⟨t, hb⟩ := h.box; exact hb.cell 0
theorem SQ.free (h : SQ k e sz b o n w0 w d s v) : w.frozen? ⟨s, 0, none⟩ = false := by obtain ⟨t, hb⟩ := h.box; exact hb.frozen 0
theorem SQ.lt (h : SQ k e sz b o n w0 w d s v) : s < w.heap.size := by obtain ⟨t, hb⟩ := h.box; exact hb.lt
theorem SQ.swpa (h : SQ k e sz b o n w0 w d s v) {i j p q : Nat} {x y : Int} (hp : p = o + i) (hq : q = o + j) (hi : i < n) (hj : j < n) (hx : x = d[i]!) (hy : y = d[j]!) :
    SQ k e sz b o n w0 ((w.setCell ⟨b, p, none⟩ (.int k y)).setCell ⟨b, q, none⟩ (.int k x)) (Sort.swp d i j) s v := by
  obtain ⟨t, hb⟩ := h.box
  exact ⟨h.row.swpa hp hq hi hj hx hy, ⟨t, (hb.far h.ne _).far h.ne _⟩, h.ne, h.ge⟩
end
theorem setCell_twice (w : World) (b o : Nat) (u v : Value) : (w.setCell ⟨b, o, none⟩ u).setCell ⟨b, o, none⟩ v = w.setCell ⟨b, o, none⟩ v := by
  rw [Sort.setCell_eq, Sort.setCell_eq, Sort.mapBlock_mapBlock, Sort.setCell_eq]
  congr 1
  funext c
  simp
end Go.Proofs.Ythcjnijggebcaaa
