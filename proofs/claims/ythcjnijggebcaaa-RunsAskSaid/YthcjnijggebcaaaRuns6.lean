/- slices.Clone at runs; runs.Of. -/
import Derived.Test.YthcjnijggebcaaaRuns5
import Derived.Test.YthcjnijggebcaaaArrA
namespace Go.Proofs.Ythcjnijggebcaaa
open Go.RowKit
set_option linter.unusedVariables false
set_option linter.unusedSimpArgs false
theorem WayR.empty {w w' : World} (h : Mod [] w w') : WayR w (w'.alloc (.cells #[] 34)) (.slice (some ⟨w'.heap.size, 0, none⟩) 0 0) [] :=
  ⟨Row.empty_ (Blk.new w' _ _), h.alloc _, fun b hb => by simp [rb, Value.ownBlock] at hb; subst hb; exact h.size⟩
/-- A new row of these runs. -/
def RunsOnly (w : World) (l : List (Int × Int)) (e : Ending) (w' : World) : Prop := ∃ v', e = .returned v' ∧ WayR w w' v' l
set_option maxHeartbeats 1000000 in
theorem clone_runs {w : World} {v : Value} {l : List (Int × Int)} (h : RSl w v l) (hl : l.length ≤ 1000000) :
    Calls Try.prog 81 #[v] w (RunsOnly w l) := by
  obtain ⟨a, cap, rfl, k1, k2, k3, k4⟩ := id h
  have q22 : ∀ (w : World) (a : Option Addr) (n c n' c' : Nat), (binOp .eql 23 (.slice a n c) (.slice none n' c')).run Try.prog w = .ok (.bool a.isNone) w := fun w a n c n' c' => Lib.run_eql_slice_nil w _ _ a n c n' c' Try.underlying23
  cases a with
  | none =>
    have hc := k3 rfl
    have hnil : l = [] := List.eq_nil_of_length_eq_zero (by omega)
    subst hnil
    clear k4
    go_enter Try.func81, Try.ntmps81
    go_wp2
    go_ret
    exact ⟨_, rfl, WayR.nil_ (Mod.refl [] w)⟩
  | some ad =>
    have hw2 := Hidden.mk (WayR.empty (Mod.refl [] w))
    have hh := Hidden.mk ((h.news ((Mod.refl [] w).alloc (.cells #[] 34))).holds)
    have h1 := Hidden.mk (rcells_one l)
    clear k3 k4 h
    go_enter Try.func81, Try.ntmps81
    go_wp2_with (refine wpList_any rfl (.tmp 5) (.tmp 6) 23 rfl 34 (.agg #[.int .u16 0, .int .u16 0]) 2 4 (by kernel_rfl) run_info rfl (by decide) _ _ _ rfl hw2.out.row _ _ _ rfl hh.out h1.out (by simp; omega) (by simp; omega) ?_; intro b4 c4 w4 hr4 hm4 hf4; have hW4 := Hidden.mk (hw2.out.next hr4 hm4 hf4 (m := l) (by simp [rcells]) (by simp)); clear hr4 hm4 hf4 hw2)
    go_ret
    exact ⟨_, rfl, by have := hW4.out; simpa using this⟩
theorem rofN_bnd {P : Int → Prop} : ∀ (n : Nat) (l : List Int), l.length = n → (∀ x ∈ l, P x) → ∀ p ∈ rofN l, P p.1 ∧ P p.2 := by
  intro n
  induction n with
  | zero =>
    intro l hl _
    have : l = [] := List.eq_nil_of_length_eq_zero hl
    subst this; simp [rofN]
  | succ n ih =>
    intro l hl h
    rcases List.eq_nil_or_concat l with rfl | ⟨a, v, e⟩
    · simp at hl
    · have e : l = a ++ [v] := by rw [e]; simp
      subst e
      rw [rofN_snoc]
      have hv := h v (by simp)
      exact radd_bnd (ih a (by simpa using hl) (fun x hx => h x (by simp [hx]))) (r := (v, v)) ⟨hv, hv⟩
theorem rofN_len : ∀ (n : Nat) (l : List Int), l.length = n → (rofN l).length ≤ n := by
  intro n
  induction n with
  | zero =>
    intro l hl
    have : l = [] := List.eq_nil_of_length_eq_zero hl
    subst this; simp [rofN]
  | succ n ih =>
    intro l hl
    rcases List.eq_nil_or_concat l with rfl | ⟨a, v, e⟩
    · simp at hl
    · have e : l = a ++ [v] := by rw [e]; simp
      subst e
      rw [rofN_snoc]
      have := radd_len (rofN a) (v, v)
      have := ih a (by simpa using hl)
      omega
theorem r16_of {l : List (Int × Int)} (h : ∀ p ∈ l, (0 ≤ p.1 ∧ p.1 < 65536) ∧ (0 ≤ p.2 ∧ p.2 < 65536)) : R16 l := fun p hp => by have := h p hp; omega
set_option maxHeartbeats 1000000 in
theorem of_runs {w : World} {v : Value} {l : List Int} (h : ISl .u16 w v l) (hb : ∀ x ∈ l, 0 ≤ x ∧ x < 65536) (hl : l.length ≤ 1000000) :
    Calls Try.prog 18 #[v] w (RunsOnly w (rofN (srt l))) := by
  have hc := clone16 h (Nat.le_trans hl (by decide))
  obtain ⟨a, cap, rfl, _⟩ := h.slice_
  have HC := Hidden.mk hc
  have HB : Hidden (∀ x ∈ srt l, 0 ≤ x ∧ x < 65536) := ⟨fun x hx => hb x (srt_mem.1 hx)⟩
  have HLN := Hidden.mk (srt_length (l := l))
  clear hc h hb
  go_enter Try.func18, Try.ntmps18
  go_wp2_with fail
  refine HC.out.mono ?_
  rintro e w1 ⟨v1, rfl, hW⟩
  have HW := Hidden.mk hW
  clear hW
  go_wp2_with fail
  refine (sort16 HW.out.row (Nat.le_trans hl (by decide))).mono ?_
  rintro e w2 ⟨rfl, hr2, hm2⟩
  have hl2 : (srt l).length ≤ 1000000 := by rw [HLN.out]; exact hl
  generalize srt l = L at *
  rw [← HLN.out] at hr2
  have hi2 := Row.isl hr2
  obtain ⟨a2, c2, rfl, _⟩ := hi2.2.slice_
  have H2 := Hidden.mk hi2.2
  have hM2 := Hidden.mk (HW.out.mod.trans hm2 (fun x hx => .inr (HW.out.ge x hx)))
  clear hr2 hm2 hi2 HW HC
  go_wp2_with fail
  go_loopw [3, 13] (fun vo vi wr => ∃ i : Nat, i ≤ L.length ∧ vi = .int .i64 i ∧ WayR w2 wr vo (rofN (L.take i))) (fun _ vi _ => L.length - (intOf vi).toNat)
  case atStart => exact ⟨0, by omega, rfl, WayR.nil_ (Mod.refl [] w2)⟩
  case round =>
    obtain ⟨i, hi, rfl, hW⟩ := hrel
    by_cases hin : i < L.length
    · obtain ⟨b, off, x, rfl, hbl, hx, hcell⟩ := (H2.out.news hW.mod).get hin
      obtain ⟨x0, x1⟩ := HB.out x (List.mem_of_getElem? hx)
      have hlen : (rofN (L.take i)).length ≤ 1000000 := by have := rofN_len _ (L.take i) rfl; rw [List.length_take] at this; omega
      have hbd : R16 (rofN (L.take i)) := r16_of (rofN_bnd (P := fun x => 0 ≤ x ∧ x < 65536) _ (L.take i) rfl (fun y hy => HB.out y (List.mem_of_mem_take hy)))
      have E := Hidden.mk (show rofN (L.take (i + 1)) = radd (rofN (L.take i)) (x, x) from by rw [List.take_add_one, hx]; exact rofN_snoc _ _)
      have HK := Hidden.mk (add_run hW hbd hlen (x, x) ⟨x0, x1, x0, x1⟩)
      clear hx hW hlen hbd
      go_wp2_with fail
      refine HK.out.mono ?_
      rintro e w3 ⟨v3, rfl, hW3, _⟩
      have HW3 := Hidden.mk hW3
      clear hW3 HK
      go_wp2_with fail
      go_roundw
      case rel => exact ⟨i + 1, by omega, by go_num, by rw [E.out]; exact HW3.out⟩
      case measure => simp [intOf]; omega
    · have e : i = L.length := by omega
      subst e
      have HW := Hidden.mk hW
      clear hW
      go_wp2_with fail
      go_ret
      exact ⟨_, rfl, by have := HW.out.trans hM2.out; rwa [List.take_length] at this⟩
end Go.Proofs.Ythcjnijggebcaaa
