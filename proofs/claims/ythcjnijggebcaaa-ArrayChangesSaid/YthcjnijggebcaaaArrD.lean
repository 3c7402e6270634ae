/- And (rising lists of uint16). -/
import Derived.Test.YthcjnijggebcaaaArrC
namespace Go.Proofs.Ythcjnijggebcaaa
open Go.RowKit
set_option linter.unusedVariables false
set_option linter.unusedSimpArgs false

def andF (ls : List (List Int)) (i : Nat) : List Int := (ls.take (i + 1)).drop 1 |>.foldl (fun a b => mg (fun k => k == 4) a b) (ls.getD 0 [])
theorem andF_len (ls : List (List Int)) (i : Nat) (M : Nat) (h : ∀ l ∈ ls, l.length ≤ M) : (andF ls i).length ≤ (i + 1) * M := by
  unfold andF
  induction i with
  | zero =>
    have : (ls.take 1).drop 1 = [] := List.drop_eq_nil_iff.2 (by simp; omega)
    rw [Nat.zero_add, this]
    simp only [List.foldl_nil]
    cases h0 : ls[0]? with
    | none => simp [List.getD_eq_getElem?_getD, h0]
    | some l => simp [List.getD_eq_getElem?_getD, h0]; exact h l (List.mem_of_getElem? h0)
  | succ i ih =>
    cases hi : ls[i + 1]? with
    | none =>
      have h1 : ls.take (i + 1 + 1) = ls.take (i + 1) := by rw [List.take_add_one, hi]; simp
      rw [h1]
      have e : (i + 1) * M ≤ (i + 1 + 1) * M := Nat.mul_le_mul_right _ (by omega)
      omega
    | some l =>
      have hlt : i + 1 < ls.length := (List.getElem?_eq_some_iff.1 hi).1
      rw [List.take_add_one (i := i + 1), hi, List.drop_append_of_le_length (by simp; omega)]
      simp only [Option.toList_some, List.foldl_append, List.foldl_cons, List.foldl_nil]
      have h1 := mg_len (fun k => k == 4) _ (List.foldl (fun a b => mg (fun k => k == 4) a b) (ls.getD 0 []) ((ls.take (i + 1)).drop 1)) l (Nat.le_refl _)
      have h2 := h l (List.mem_of_getElem? hi)
      have : (i + 1 + 1) * M = (i + 1) * M + M := by rw [Nat.add_mul (i + 1) 1, Nat.one_mul]
      omega
theorem andF_next {ls : List (List Int)} {i : Nat} {l : List Int} (hi : ls[i + 1]? = some l) : andF ls (i + 1) = mg (fun k => k == 4) (andF ls i) l := by
  have hlt : i + 1 < ls.length := (List.getElem?_eq_some_iff.1 hi).1
  unfold andF
  rw [List.take_add_one (i := i + 1), hi, List.drop_append_of_le_length (by simp; omega)]
  simp
theorem andF_all {ls : List (List Int)} {i : Nat} (h : ls.length = i + 1) : andF ls i = andL ls := by
  unfold andF
  rw [← h, List.take_length]
  cases ls with
  | nil => simp at h
  | cons l ls => simp [andL]
set_option maxHeartbeats 1000000 in
theorem and_16 {w : World} {v : Value} {ls : List (List Int)} (h : LSl .u16 w v ls) (hn : ls.length ≤ 5) (hl : ∀ l ∈ ls, l.length ≤ 1000) :
    Calls Try.prog 53 #[v] w (RowOnly .u16 24 w (andL ls)) := by
  obtain ⟨a, cap, rfl, k1, k2⟩ := h.slice_
  rcases Nat.eq_zero_or_pos ls.length with h0 | hpos
  · have hnil : ls = [] := List.eq_nil_of_length_eq_zero h0
    subst hnil
    clear h
    go_enter Try.func53, Try.ntmps53
    go_wp2
    go_ret
    exact ⟨_, rfl, WayI.nil_ (Mod.refl [] w)⟩
  · obtain ⟨n, hn'⟩ : ∃ n, ls.length = n + 1 := ⟨ls.length - 1, by omega⟩
    have HG : Hidden (∀ i, i < ls.length → ∃ b off u l, a = some ⟨b, off, none⟩ ∧ b < w.heap.size ∧ ls[i]? = some l ∧ w.cell? ⟨b, off + i, none⟩ = some u ∧ ISl .u16 w u l) := ⟨fun i hi => h.get hi⟩
    obtain ⟨sb, so, u0, l0, rfl, hb, hl0, hc0, hu0⟩ := h.get hpos
    have HL := Hidden.mk hl
    have HO : Hidden (∀ i, i ≤ 4 → (andF ls i).length ≤ 5000) := ⟨fun i hi => by
      have := andF_len ls i 1000 hl
      have h2 : (i + 1) * 1000 ≤ 5 * 1000 := Nat.mul_le_mul_right _ (by omega)
      omega⟩
    have HC := Hidden.mk (clone16 hu0 (by have := hl l0 (List.mem_of_getElem? hl0); omega))
    have e0 : Hidden (andF ls 0 = l0) := ⟨by
      unfold andF
      have : (ls.take 1).drop 1 = [] := List.drop_eq_nil_iff.2 (by simp; omega)
      rw [Nat.zero_add, this]
      simp [List.getD_eq_getElem?_getD, hl0]⟩
    rw [Nat.add_zero] at hc0
    obtain ⟨ua0, uc0, rfl, _⟩ := hu0.slice_
    clear h hl hl0 hu0 hpos
    rw [hn'] at HG hn k1 ⊢
    have HN := Hidden.mk hn'
    clear hn'
    have hnz : ((n : Int) + 1 == 0) = false := by simp; omega
    have hcz : (1 : Int) ≤ (cap : Int) := by omega
    have DONE : Hidden (andF ls n = andL ls) := ⟨andF_all HN.out⟩
    by_cases hcap : cap = 1
    · have hn0 : n = 0 := by omega
      subst hn0 hcap
      go_enter Try.func53, Try.ntmps53
      go_wp2_with fail
      refine HC.out.mono ?_
      rintro e w1 ⟨v1, rfl, hW⟩
      rw [← e0.out] at hW
      have HW := Hidden.mk hW
      clear hW
      go_wp2_with fail
      go_loopw [3, 5, 16] (fun vo _ vi wr => vi = .int .i64 0 ∧ WayI .u16 24 w wr vo (andF ls 0).length (andF ls 0)) (fun _ _ _ _ => 1)
      case atStart => exact ⟨rfl, HW.out⟩
      case round =>
        obtain ⟨rfl, hW⟩ := hrel
        have HW := Hidden.mk hW
        clear hW
        go_wp2_with fail
        go_ret
        exact ⟨_, rfl, by rw [← DONE.out]; exact HW.out⟩
    · go_enter Try.func53, Try.ntmps53
      go_wp2_with fail
      refine HC.out.mono ?_
      rintro e w1 ⟨v1, rfl, hW⟩
      rw [← e0.out] at hW
      have HW := Hidden.mk hW
      clear hW
      go_wp2_with fail
      go_loopw [3, 5, 16] (fun vo _ vi wr => ∃ i : Nat, i ≤ n ∧ vi = .int .i64 i ∧ WayI .u16 24 w wr vo (andF ls i).length (andF ls i)) (fun _ _ vi _ => n - (intOf vi).toNat)
      case atStart => exact ⟨0, by omega, rfl, HW.out⟩
      case round =>
        obtain ⟨i, hi, rfl, hW⟩ := hrel
        by_cases hin : i < n
        · obtain ⟨sb', so', u, l, he, hb', hli, hc, hu⟩ := HG.out (i + 1) (by omega)
          injection he with he
          injection he with he1 he2
          subst he1 he2
          have hc2 : wr.cell? ⟨sb, so + 1 + i, none⟩ = some u := by
            rw [Nat.add_assoc, Nat.add_comm 1 i]
            exact (Below.cell (p := ⟨sb, so + (i + 1), none⟩) hW.mod.below' hb).trans hc
          have hM := Hidden.mk (merge16 4 (fun k => k == 4) hW.isl.2 (hu.news hW.mod) (by have := HO.out i (by omega); omega) (by have := HL.out l (List.mem_of_getElem? hli); omega) (by decide) (by decide) (by decide))
          have HE := Hidden.mk (andF_next hli)
          have HW := Hidden.mk hW.mod
          obtain ⟨uo, uc, huo, _⟩ := hW.isl.2.slice_
          obtain ⟨va, vc, rfl, _⟩ := hu.slice_
          clear hW hc hu hli
          subst huo
          go_wp2_with fail
          refine hM.out.mono ?_
          rintro e w1 ⟨v1, rfl, hW1⟩
          have HW1 := Hidden.mk (hW1.after HW.out)
          clear hW1 hM
          rw [← HE.out] at HW1
          go_wp2_with fail
          go_roundw
          case rel => exact ⟨i + 1, by omega, by go_num, HW1.out⟩
          case measure => simp [intOf]; omega
        · have e : i = n := by omega
          subst e
          have HW := Hidden.mk hW
          clear hW
          go_wp2_with fail
          go_ret
          exact ⟨_, rfl, by rw [← DONE.out]; exact HW.out⟩
end Go.Proofs.Ythcjnijggebcaaa
