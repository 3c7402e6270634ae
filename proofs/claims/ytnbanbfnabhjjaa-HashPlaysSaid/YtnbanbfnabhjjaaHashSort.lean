/- slices.SortFunc at a row of entries. -/
import Derived.Test.YtnbanbfnabhjjaaHashCmp
import Derived.Test.YtnbanbfnabhjjaaFlat
import Derived.Test.YtnbanbfnabhjjaaApp
namespace Go.Proofs.Ytnbanbfnabhjjaa
open Go.RowKit Go.Shelf Go.Sort
set_option linter.unusedVariables false
set_option linter.unusedSimpArgs false
theorem flatK_list (d : Array (HK × Int)) : (flatK encF 4 d).toList = d.toList.flatMap encF := by
  apply List.ext_getElem?
  intro t
  by_cases ht : t < d.size * 4
  · have e : t = t / 4 * 4 + t % 4 := by omega
    have h4 : t % 4 < 4 := by omega
    have hd : t / 4 < d.size := by omega
    conv => rhs; rw [e]
    rw [flat_get encF 4 (fun _ => rfl) _ _ _ h4, Array.getElem?_toList, Array.getElem?_toList, Array.getElem?_eq_getElem hd]
    have hs : (flatK encF 4 d).size = d.size * 4 := by simp
    have hg := get_flatK encF 4 d t ht
    rw [getElem!_pos (flatK encF 4 d) t (by omega)] at hg
    have h4' : t % 4 < (encF d[t / 4]).length := h4
    rw [getElem!_pos d _ hd, getElem!_pos (encF d[t / 4]) (t % 4) h4'] at hg
    rw [Array.getElem?_eq_getElem (by omega), hg]
    show _ = (encF d[t / 4])[t % 4]?
    rw [List.getElem?_eq_getElem h4']
  · rw [List.getElem?_eq_none, List.getElem?_eq_none]
    · rw [flat_len encF 4 (fun _ => rfl)]; simp; omega
    · simp; omega
theorem grow_mod {w : World} {g n : Nat} (F : Array Value) (os : Array Obj) : Mod [g] w (grow (putRow id (Sort.ahead w n) g 0 F) os) := by
  refine ⟨rfl, rfl, rfl, by simp, fun k hk hne => ?_⟩
  rw [heap_grow_old _ _ (by simpa using hk)]
  have : g ≠ k := fun e => hne (by simp [e])
  simp [putRow, mapBlock, Sort.ahead, Array.getElem?_modify, this]
theorem grow_blk {w : World} {g n : Nat} {cur : Array Value} {e : TypeId} {fr : Nat × Nat} (F : Array Value) (os : Array Obj) (hb : w.heap[g]? = some (.cells cur e fr)) :
    (grow (putRow id (Sort.ahead w n) g 0 F) os).heap[g]? = some (.cells (putCells id 0 F cur) e fr) := by
  have hg : g < w.heap.size := (Array.getElem?_eq_some_iff.1 hb).1
  rw [heap_grow_old _ _ (by simpa using hg)]
  simp [putRow, mapBlock, Sort.ahead, Array.getElem?_modify, hb, onCells]
theorem take_put (cur : Array Value) (F : Array Value) (h : F.size ≤ cur.size) : (putCells id 0 F cur).toList.take F.size = F.toList := by
  apply List.ext_getElem?
  intro j
  by_cases hj : j < F.size
  · rw [List.getElem?_take_of_lt hj, Array.getElem?_toList]
    simp [putCells, hj, show j < cur.size by omega]
  · rw [List.getElem?_take_eq_none (by omega), List.getElem?_eq_none (by simp; omega)]
/-- A row of entries, sorted by level and prefix. -/
theorem sort_row {w : World} {g n cap : Nat} {l : List (HK × Int)} (h : Row w 123 4 (.slice (some ⟨g, 0, none⟩) n cap) n (l.flatMap encF)) (hn : l.length = n) (hsz : n < 4611686018427387904) :
    Calls Try.prog 117 #[.slice (some ⟨g, 0, none⟩) n cap, .func (.func 118) #[] #[]] w fun e w' =>
      e = .returned (.tuple #[]) ∧ ∃ l' : List (HK × Int), l'.Perm l ∧ l'.Pairwise (fun x y => ltOf cfE y x = false) ∧ Row w' 123 4 (.slice (some ⟨g, 0, none⟩) n cap) n (l'.flatMap encF) ∧ Mod [g] w w' := by
  subst hn
  obtain ⟨h1, h2⟩ := h
  rcases h2 with ⟨hv, _⟩ | ⟨g', cap', cur, hv, _, hgg, h3, h4, h5, h6⟩
  · cases hv
  · injection hv with hv hv2 hv3; injection hv with hv; injection hv with hv; subst hv hv3
    have hfl := flat_len encF 4 (fun _ => rfl) l
    have hH : HoldsK encF 4 w g 0 l.toArray := by
      intro j hj
      have hj2 : j < l.length * 4 := by simpa using hj
      have e : (flatK encF 4 l.toArray)[j]! = (l.flatMap encF)[j]'(by omega) := by
        have hh := congrArg (fun x => x[j]?) (flatK_list l.toArray)
        simp only [Array.getElem?_toList] at hh
        rw [getElem!_pos _ j hj]
        rw [Array.getElem?_eq_getElem hj, List.getElem?_eq_getElem (by omega)] at hh
        injection hh
      refine ⟨?_, ?_⟩
      · rw [cell_of_row w g (0 + j) cur _ _ hgg, e, Nat.zero_add]
        have hh := congrArg (fun x => x[j]?) h6
        simp only [List.getElem?_take_of_lt hj2, Array.getElem?_toList] at hh
        rw [hh, List.getElem?_eq_getElem (by omega)]; rfl
      · simp [World.frozen?, hgg]
    refine (sort_entries g 0 cap l.toArray w hH (Array.getElem?_eq_some_iff.1 hgg).1 hsz).mono ?_
    rintro e w' ⟨rfl, d', m, os, hp, hs, rfl⟩
    have hds : d'.size = l.length := by simpa using hp.1
    have hperm : d'.toList.Perm l := by
      have := hp.2.2
      simp only [List.size_toArray] at this
      rw [show d'.extract 0 l.length = d' from by rw [← hds]; simp, show l.toArray.extract 0 l.length = l.toArray from by simp] at this
      exact this
    refine ⟨rfl, d'.toList, hperm, ?_, ?_, grow_mod _ _⟩
    · rw [List.pairwise_iff_getElem]
      intro i j hi hj hij
      have hi' : i < d'.size := by simpa using hi
      have hj' : j < d'.size := by simpa using hj
      have := hs i j (by omega) hij (by simp; omega)
      rw [getElem!_pos d' j hj', getElem!_pos d' i hi'] at this
      simpa using this
    · have hF : (flatK encF 4 d').size = l.length * 4 := by simp [hds]
      refine ⟨by rw [flat_len encF 4 (fun _ => rfl)]; simp [hds], .inr ⟨g, cap, _, rfl, Nat.zero_le _, grow_blk _ _ hgg, h3, h4, by simp [putCells, h5], ?_⟩⟩
      rw [← flatK_list, ← hF]
      exact take_put _ _ (by rw [hF, h5]; exact Nat.mul_le_mul_right _ h3)
end Go.Proofs.Ytnbanbfnabhjjaa
