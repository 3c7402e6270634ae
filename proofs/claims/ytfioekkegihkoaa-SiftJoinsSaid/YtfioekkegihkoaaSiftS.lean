/- A row of sequences under way; what so many have of some lists. -/
import Derived.Test.YtfioekkegihkoaaSiftR
namespace Go.Proofs.Ytfioekkegihkoaa
open Go.RowKit Go.Shelf
set_option linter.unusedVariables false
set_option linter.unusedSimpArgs false
theorem infoF64 : (Try.prog.info? 43).map (fun i => (i.zero, i.size, i.bytes)) = some (some .nilFunc, 1, 8) := by kernel_rfl
/-- A row of sequences under way: it lies apart from all that they read. -/
structure SqRow (W0 W : World) (v : Value) (ls : List (List Int)) (fs : List Value) (RR : List Nat) : Prop where
  row : Row W 43 1 v ls.length fs
  mod : Mod [] W0 W
  ge : ∀ b ∈ rb v, W0.heap.size ≤ b ∧ b ∉ RR
  lt : ∀ q ∈ RR, q < W.heap.size
  sq : ∀ (p : Nat) (l : List Int), ls[p]? = some l → ∃ u R, fs[p]? = some u ∧ SeqL W u l R ∧ ∀ q ∈ R, q ∈ RR
theorem SqRow.nil_ (W : World) : SqRow W W (.slice none 0 0) [] [] [] := ⟨Row.nil_ _ _ _, Mod.refl _ _, fun b hb => by simp [rb, Value.ownBlock] at hb, by simp, fun p l h => by simp at h⟩
theorem SqRow.news {W0 W W' : World} {v : Value} {ls : List (List Int)} {fs : List Value} {RR : List Nat} (h : SqRow W0 W v ls fs RR) (hm : Mod [] W W') : SqRow W0 W' v ls fs RR :=
  ⟨h.row.mod hm (by simp), h.mod.trans hm (by simp), h.ge, fun q hq => Nat.lt_of_lt_of_le (h.lt q hq) hm.size, fun p l hl => by obtain ⟨u, R, h1, h2, h3⟩ := h.sq p l hl; exact ⟨u, R, h1, h2.news hm, h3⟩⟩
/-- One more: what Of made, in a row that append grew. -/
theorem SqRow.next {W0 W w1 w3 : World} {v v3 u : Value} {ls : List (List Int)} {fs : List Value} {RR R : List Nat} {l : List Int} (h : SqRow W0 W v ls fs RR) (hm1 : Mod [] W w1) (hs : SeqL w1 u l R) (hR : ∀ q ∈ R, W.heap.size ≤ q ∧ q < w1.heap.size) (o : Obj)
    (hr3 : Row w3 43 1 v3 (ls.length + 1) (fs ++ [u])) (hm3 : Mod (rb v) (w1.alloc o) w3) (hf3 : ∀ b ∈ rb v3, b ∈ rb v ∨ (w1.alloc o).heap.size ≤ b) : SqRow W0 w3 v3 (ls ++ [l]) (fs ++ [u]) (RR ++ R) := by
  have hml : Mod [] W (w1.alloc o) := hm1.alloc o
  have hsz1 : (w1.alloc o).heap.size = w1.heap.size + 1 := by simp
  have hW0 := h.mod.size
  have hs1 := hml.size
  have hs3 := hm3.size
  have hvlt : ∀ b ∈ rb v, b < W.heap.size := fun b hb => h.row.lt hb
  have hlen : fs.length = ls.length := by have := h.row.1; omega
  refine ⟨by rw [List.length_append]; exact hr3, (h.mod.trans hml (by simp)).trans hm3 (fun q hq => .inr (h.ge q hq).1), fun b hb => ?_, fun q hq => ?_, fun p l' hl => ?_⟩
  · rcases hf3 b hb with h1 | h1
    · refine ⟨(h.ge b h1).1, fun hq => ?_⟩
      rcases List.mem_append.1 hq with h2 | h2
      · exact (h.ge b h1).2 h2
      · have := hvlt b h1; have := (hR b h2).1; omega
    · refine ⟨by omega, fun hq => ?_⟩
      rcases List.mem_append.1 hq with h2 | h2
      · have := h.lt b h2; have := hm1.size; omega
      · have := (hR b h2).2; omega
  · rcases List.mem_append.1 hq with h2 | h2
    · have := h.lt q h2; omega
    · have := (hR q h2).2; omega
  · rcases Nat.lt_or_ge p ls.length with h3 | h3
    · rw [List.getElem?_append_left h3] at hl
      obtain ⟨u', R', k1, k2, k3⟩ := h.sq p l' hl
      exact ⟨u', R', by rw [List.getElem?_append_left (by omega)]; exact k1, (k2.news hml).mod hm3 (fun q hq hq2 => (h.ge q hq).2 (k3 q hq2)), fun q hq => by simp [k3 q hq]⟩
    · rw [List.getElem?_append_right h3] at hl
      have h4 : p - ls.length = 0 := by
        rcases Nat.eq_zero_or_pos (p - ls.length) with h5 | h5
        · exact h5
        · rw [List.getElem?_eq_none (by simp only [List.length_cons, List.length_nil]; omega)] at hl; cases hl
      rw [h4] at hl
      obtain rfl : l = l' := by simpa using hl
      exact ⟨u, R, by rw [List.getElem?_append_right (by omega), show p - fs.length = 0 from by omega]; rfl, (hs.news ((Mod.refl [] w1).alloc o)).mod hm3 (fun q hq hq2 => by have := hvlt q hq; have := (hR q hq2).1; omega), fun q hq => by simp [hq]⟩
theorem SqRow.lseq {W0 W : World} {v : Value} {ls : List (List Int)} {fs : List Value} {RR : List Nat} (h : SqRow W0 W v ls fs RR) : LSeq W v ls (rb v ++ RR) ∧ ∀ q ∈ rb v ++ RR, q < W.heap.size := by
  refine ⟨?_, fun q hq => ?_⟩
  · rcases Nat.eq_zero_or_pos ls.length with h0 | h0
    · obtain rfl := List.eq_nil_of_length_eq_zero h0
      rcases h.row.2 with ⟨rfl, -⟩ | ⟨g, cap, cur, rfl, -, -, h3, h4, -⟩
      · exact LSeq.nil_ _ _
      · exact ⟨_, _, rfl, h3, by unfold maxLen at h4; exact h4, fun h => by simp at h, .inl rfl⟩
    · obtain ⟨g, cap, rfl, hrb, hc, hc2, hg, hcell, -⟩ := h.row.at_ h0
      refine ⟨_, _, rfl, hc, hc2, fun h => by simp at h, .inr ⟨g, 0, rfl, hg, by rw [hrb]; simp, fun i l hl => ?_⟩⟩
      obtain ⟨u, R, h1, h2, h3⟩ := h.sq i l hl
      have hi : i < ls.length := (List.getElem?_eq_some_iff.1 hl).1
      exact ⟨u, R, by rw [Nat.zero_add, hcell i (by omega)]; exact h1, h2, fun q hq => by simp [h3 q hq]⟩
  · rcases List.mem_append.1 hq with h2 | h2
    · exact h.row.lt h2
    · exact h.lt q h2
theorem LSl.take {k : IntKind} {w : World} {a : Option Addr} {n cap : Nat} {ls : List (List Int)} (h : LSl k w (.slice a n cap) ls) {i : Nat} (hi : i ≤ n) : LSl k w (.slice a i cap) (ls.take i) := by
  obtain ⟨a', cap', he, h1, h2, h3⟩ := h
  injection he with e1 e2 e3
  subst e1 e2 e3
  have hl : (ls.take i).length = i := by rw [List.length_take]; omega
  refine ⟨a, cap, by rw [hl], by omega, h2, ?_⟩
  rcases h3 with rfl | ⟨b, off, rfl, hc⟩
  · left; simp
  · refine .inr ⟨b, off, rfl, fun p l hp => ?_⟩
    rw [List.getElem?_take] at hp
    split at hp
    · exact hc p l hp
    · cases hp
theorem LSl.news {k : IntKind} {w w' : World} {v : Value} {ls : List (List Int)} (h : LSl k w v ls) (hm : Mod [] w w') : LSl k w' v ls := by
  obtain ⟨a, cap, rfl, h1, h2, h3⟩ := h
  refine ⟨a, cap, rfl, h1, h2, h3.imp id ?_⟩
  rintro ⟨b, off, rfl, hc⟩
  refine ⟨b, off, rfl, fun i l hl => ?_⟩
  obtain ⟨u, hu, hI⟩ := hc i l hl
  exact ⟨u, (hm.below'.cell (p := ⟨b, off + i, none⟩) (by simpa using World.block_lt_of_cell? w _ hu)).trans hu, hI.news hm⟩
/-- What all have, nothing of none. -/
def andA : List (List Int) → List Int
  | [] => []
  | l0 :: ls => andF l0 ls
theorem and_any {w : World} {v : Value} {ls : List (List Int)} {R : List Nat} (h : LSeq w v ls R) (hR : ∀ q ∈ R, q < w.heap.size) (hm : ∀ l ∈ ls, l.length ≤ 1000000) (hr : ∀ l ∈ ls, l.Pairwise (· < ·)) (hn : ls.length ≤ 999) :
    Calls Try.prog 27 #[v] w (NewSeq w (andA ls) R) := by
  cases ls with
  | nil => exact and_call0 h
  | cons l0 ls => exact and_call h hR hm hr (by simp at hn; omega)
theorem cntL_pos {ls : List (List Int)} {k : Int} : 1 ≤ cntL ls k ↔ ∃ l ∈ ls, k ∈ l := by
  unfold cntL
  rw [show (1 ≤ ls.countP fun x => decide (k ∈ x)) ↔ 0 < ls.countP (fun x => decide (k ∈ x)) from Iff.rfl, List.countP_pos_iff]
  simp
theorem cntL_all {ls : List (List Int)} {k : Int} : ls.length ≤ cntL ls k ↔ ∀ l ∈ ls, k ∈ l := by
  have h := cntL_le ls k
  unfold cntL at *
  constructor
  · intro h1 l hl
    have := (List.countP_eq_length (l := ls) (p := fun x => decide (k ∈ x))).1 (by omega) l hl
    simpa using this
  · intro h1
    have := (List.countP_eq_length (l := ls) (p := fun x => decide (k ∈ x))).2 (fun l hl => by simpa using h1 l hl)
    omega
theorem wantL_rises (ls : List (List Int)) (f t : Int) : (wantL ls f t).Pairwise (· < ·) := (asc_rises _).sublist List.filter_sublist
theorem wantL_mem {ls : List (List Int)} {f t : Int} {z : Int} : z ∈ wantL ls f t ↔ (∃ l ∈ ls, z ∈ l) ∧ f ≤ (cntL ls z : Int) ∧ (cntL ls z : Int) ≤ t := by
  unfold wantL wantF
  rw [List.mem_filter, asc_mem, List.mem_flatten]
  simp
theorem want_or {ls : List (List Int)} (h : ∀ l ∈ ls, l.Pairwise (· < ·)) (hn : ls.length ≤ 9) : orF ls = wantL ls 1 9 := by
  rw [orF_asc h]
  refine rise_ext (asc_rises _) (wantL_rises _ _ _) (fun z => ?_)
  rw [asc_mem, List.mem_flatten, wantL_mem]
  refine ⟨fun h1 => ⟨h1, ?_, ?_⟩, fun h1 => h1.1⟩
  · have := cntL_pos.2 h1; omega
  · have := cntL_le ls z; omega
theorem want_and {ls : List (List Int)} (h : ∀ l ∈ ls, l.Pairwise (· < ·)) (hn : ls.length ≤ 9) : andA ls = wantL ls (max (ls.length : Int) 1) 9 := by
  cases ls with
  | nil => unfold andA wantL; simp [asc_nil]
  | cons l0 ls =>
    refine rise_ext (andF_rises (h l0 (by simp))) (wantL_rises _ _ _) (fun z => ?_)
    show z ∈ andF l0 ls ↔ _
    rw [and_mem, wantL_mem]
    have hc := cntL_all (ls := l0 :: ls) (k := z)
    have hle := cntL_le (l0 :: ls) z
    constructor
    · rintro ⟨h1, h2⟩
      have h3 : ∀ l ∈ l0 :: ls, z ∈ l := fun l hl => by
        rcases List.mem_cons.1 hl with rfl | hl
        · exact h1
        · exact h2 l hl
      have h4 := hc.2 h3
      simp only [List.length_cons] at h4 hle hn ⊢
      exact ⟨⟨l0, by simp, h1⟩, by omega, by omega⟩
    · rintro ⟨h1, h2, h3⟩
      have h4 := hc.1 (by simp only [List.length_cons] at h2 ⊢; omega)
      exact ⟨h4 l0 (by simp), fun m hm => h4 m (by simp [hm])⟩
theorem want_xor {X Y : List Int} (hX : X.Pairwise (· < ·)) (hY : Y.Pairwise (· < ·)) : twoL (lessL X Y) (lessL Y X) = wantL [X, Y] 1 1 := by
  refine rise_ext (two_rises (lessL_rises hX) (lessL_rises hY)) (wantL_rises _ _ _) (fun z => ?_)
  rw [two_mem, less_mem, less_mem, wantL_mem]
  by_cases h1 : z ∈ X <;> by_cases h2 : z ∈ Y <;> simp [h1, h2, cntL]
end Go.Proofs.Ytfioekkegihkoaa
