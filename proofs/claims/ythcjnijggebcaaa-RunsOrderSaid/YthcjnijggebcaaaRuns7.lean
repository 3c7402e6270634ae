/- runs.Fill. -/
import Derived.Test.YthcjnijggebcaaaRuns6
namespace Go.Proofs.Ythcjnijggebcaaa
open Go.RowKit
set_option linter.unusedVariables false
set_option linter.unusedSimpArgs false
theorem r16_to {l : List (Int × Int)} (h : R16 l) : ∀ p ∈ l, (0 ≤ p.1 ∧ p.1 < 65536) ∧ (0 ≤ p.2 ∧ p.2 < 65536) := fun p hp => by have := h p hp; omega
theorem fst16 {f t : Int} (hf : 0 ≤ f ∧ f < 65536) (ht : 0 ≤ t ∧ t < 65536) {l : List (Int × Int)} (h : R16 l) (i : Nat) : R16 (fstN f t (l.take i)).1 :=
  r16_of (fstN_bnd (P := fun x => 0 ≤ x ∧ x < 65536) hf ht _ _ rfl (fun p hp => r16_to h p (List.mem_of_mem_take hp)))
theorem fst_len (f t : Int) (l : List (Int × Int)) (i : Nat) : (fstN f t (l.take i)).1.length ≤ 2 * l.length := by
  have := fstN_len f t _ (l.take i) rfl
  rw [List.length_take] at this; omega
theorem fst_take {f t : Int} {l : List (Int × Int)} {i : Nat} {r : Int × Int} (h : l[i]? = some r) : fstN f t (l.take (i + 1)) = fstep f t (fstN f t (l.take i)) r := by
  rw [List.take_add_one, h]; exact fstN_snoc _ _ _ _
set_option maxHeartbeats 2000000 in
theorem fill_runs {w : World} {v : Value} {l : List (Int × Int)} (f t : Int) (hf : 0 ≤ f ∧ f < 65536) (ht : 0 ≤ t ∧ t < 65536) (h : RSl w v l) (hr : R16 l) (hl : l.length ≤ 200000) :
    Calls Try.prog 22 #[v, .int .u16 f, .int .u16 t] w (RunsOnly w (rfill f t l)) := by
  by_cases htf : t < f
  · have HK := Hidden.mk (clone_runs h (by omega))
    have HX := Hidden.mk (show rfill f t l = l from by unfold rfill; rw [if_pos htf])
    obtain ⟨a, cap, rfl, _⟩ := h.slice_
    clear h hr
    go_enter Try.func22, Try.ntmps22
    go_wp2_with fail
    refine HK.out.mono ?_
    rintro e w1 ⟨v1, rfl, hW⟩
    have HW := Hidden.mk hW
    clear hW HK
    go_wp2_with fail
    go_ret
    exact ⟨_, rfl, by rw [HX.out]; exact HW.out⟩
  · have htd : decide (t < f) = false := decide_eq_false htf
    obtain ⟨a, cap, rfl, _⟩ := h.slice_
    have H := Hidden.mk (h.news ((Mod.refl [] w).alloc (.cells #[.int .u16 f, .int .u16 t] 34)))
    have HM0 := Hidden.mk ((Mod.refl [] w).alloc (.cells #[.int .u16 f, .int .u16 t] 34))
    have HR := Hidden.mk hr
    have HX := Hidden.mk (show rfill f t l = if (fstN f t l).2 then (fstN f t l).1 else radd (fstN f t l).1 (f, t) from by unfold rfill; rw [if_neg htf])
    have K0 : Hidden (∀ W, Mod [] (w.alloc (.cells #[.int .u16 f, .int .u16 t] 34)) W → W.cell? ⟨w.heap.size, 0, none⟩ = some (.int .u16 f) ∧ W.cell? ⟨w.heap.size, 1, none⟩ = some (.int .u16 t)) := ⟨fun W hW =>
      ⟨(Below.cell (p := ⟨w.heap.size, 0, none⟩) hW.below' (by simp)).trans ((Blk.new w 34 #[.int .u16 f, .int .u16 t]).cell 0),
        (Below.cell (p := ⟨w.heap.size, 1, none⟩) hW.below' (by simp)).trans ((Blk.new w 34 #[.int .u16 f, .int .u16 t]).cell 1)⟩⟩
    have HF := Hidden.mk (And.intro hf ht)
    clear h hr hf ht
    go_enter Try.func22, Try.ntmps22
    go_wp2_with fail
    go_loopw [7, 9, 22] (fun vo vd vi wr => ∃ i : Nat, i ≤ l.length ∧ vi = .int .i64 i ∧ WayR (w.alloc (.cells #[.int .u16 f, .int .u16 t] 34)) wr vo (fstN f t (l.take i)).1 ∧ vd = .bool (fstN f t (l.take i)).2) (fun _ _ vi _ => l.length - (intOf vi).toNat)
    case atStart => exact ⟨0, by omega, rfl, WayR.nil_ (Mod.refl [] _), rfl⟩
    case round =>
      obtain ⟨i, hi, rfl, hW, rfl⟩ := hrel
      have hb6 := fst16 HF.out.1 HF.out.2 HR.out i
      have hlen := fst_len f t l i
      have KC := K0.out _ hW.mod
      obtain ⟨kc0, kc1⟩ := KC
      have hlt0 : w.heap.size < wr.heap.size := Nat.lt_of_lt_of_le (by simp) hW.mod.size
      by_cases hin : i < l.length
      · obtain ⟨b, off, p, q, rfl, hbl, hx, hc1, hc2⟩ := (H.out.news hW.mod).get hin
        have hb := HR.out (p, q) (List.mem_of_getElem? hx)
        have E := Hidden.mk (fst_take (f := f) (t := t) hx)
        obtain ⟨S, hS⟩ : ∃ S, fstN f t (l.take i) = S := ⟨_, rfl⟩
        rw [hS] at hW hb6 hlen E ⊢
        clear hS hx
        obtain ⟨o, d⟩ := S
        simp only at hW hb6 hlen ⊢
        have HB := Hidden.mk (And.intro hb6 hb)
        have HW1 := Hidden.mk (hW.alloc (.cells #[.int .u16 p, .int .u16 q] 34))
        have HLT := Hidden.mk (fun k hk => hW.row.lt (k := k) hk)
        clear hW hb6 hb
        cases d with
        | true =>
          have HK := Hidden.mk (add_run HW1.out HB.out.1 (by omega) (p, q) HB.out.2)
          have E2 := Hidden.mk (show fstN f t (l.take (i + 1)) = (radd o (p, q), true) from by rw [E.out]; rfl)
          clear HW1 E
          go_wp2_with fail
          refine HK.out.mono ?_
          rintro e w3 ⟨v3, rfl, hW3, _⟩
          have HW3 := Hidden.mk hW3
          clear hW3 HK
          go_wp2_with fail
          go_roundw
          case rel => exact ⟨i + 1, by omega, by go_num, by rw [E2.out]; exact HW3.out, by rw [E2.out]⟩
          case measure => simp [intOf]; omega
        | false =>
          by_cases hfp : f < p
          · have HK := Hidden.mk (add_run HW1.out HB.out.1 (by omega) (f, t) (by have := HF.out; simp only; omega))
            have E2 := Hidden.mk (show fstN f t (l.take (i + 1)) = (radd (radd o (f, t)) (p, q), true) from by rw [E.out]; simp [fstep, hfp])
            have hfd : decide (f < p) = true := decide_eq_true hfp
            have HB2 := Hidden.mk (show R16 (radd o (f, t)) from r16_of (radd_bnd (P := fun x => 0 ≤ x ∧ x < 65536) (r16_to HB.out.1) (r := (f, t)) HF.out))
            have hl2 : (radd o (f, t)).length ≤ 1000000 := by have := radd_len o (f, t); omega
            have KN : Hidden (∀ W, Mod (rb _) (wr.alloc (.cells #[.int .u16 p, .int .u16 q] 34)) W → W.cell? ⟨wr.heap.size, 0, none⟩ = some (.int .u16 p) ∧ W.cell? ⟨wr.heap.size, 1, none⟩ = some (.int .u16 q)) := ⟨fun W hW => by
              have hB := (Blk.new wr 34 #[.int .u16 p, .int .u16 q]).mod hW (fun hk => Nat.lt_irrefl _ (HLT.out _ hk))
              exact ⟨by rw [hB.cell]; rfl, by rw [hB.cell]; rfl⟩⟩
            clear HW1 E hfp
            go_wp2_with fail
            refine HK.out.mono ?_
            rintro e w3 ⟨v3, rfl, hW3, hM3⟩
            obtain ⟨kn0, kn1⟩ := KN.out _ hM3
            have hlt3 : wr.heap.size < w3.heap.size := Nat.lt_of_lt_of_le (by simp) hM3.size
            have HK3 := Hidden.mk (add_run hW3 HB2.out hl2 (p, q) HB.out.2)
            clear hW3 HK hM3
            go_wp2_with fail
            refine HK3.out.mono ?_
            rintro e w4 ⟨v4, rfl, hW4, _⟩
            have HW4 := Hidden.mk hW4
            clear hW4 HK3
            go_wp2_with fail
            go_roundw
            case rel => exact ⟨i + 1, by omega, by go_num, by rw [E2.out]; exact HW4.out, by rw [E2.out]⟩
            case measure => simp [intOf]; omega
          · have hfd : decide (f < p) = false := decide_eq_false hfp
            have HK := Hidden.mk (add_run HW1.out HB.out.1 (by omega) (p, q) HB.out.2)
            have E2 := Hidden.mk (show fstN f t (l.take (i + 1)) = (radd o (p, q), false) from by rw [E.out]; simp [fstep, hfp])
            clear HW1 E hfp
            go_wp2_with fail
            refine HK.out.mono ?_
            rintro e w3 ⟨v3, rfl, hW3, _⟩
            have HW3 := Hidden.mk hW3
            clear hW3 HK
            go_wp2_with fail
            go_roundw
            case rel => exact ⟨i + 1, by omega, by go_num, by rw [E2.out]; exact HW3.out, by rw [E2.out]⟩
            case measure => simp [intOf]; omega
      · have e : i = l.length := by omega
        subst e
        rw [List.take_length] at hW hb6 hlen ⊢
        obtain ⟨S, hS⟩ : ∃ S, fstN f t l = S := ⟨_, rfl⟩
        rw [hS] at hW hb6 hlen ⊢
        have HX2 := Hidden.mk HX.out
        rw [hS] at HX2
        clear hS HX
        obtain ⟨o, d⟩ := S
        simp only at hW hb6 hlen HX2 ⊢
        cases d with
        | true =>
          have HW := Hidden.mk (hW.trans HM0.out)
          clear hW hb6
          go_wp2_with fail
          go_ret
          exact ⟨_, rfl, by rw [HX2.out]; simpa using HW.out⟩
        | false =>
          have HK := Hidden.mk (add_run hW hb6 (by omega) (f, t) (by have := HF.out; simp only; omega))
          clear hW hb6
          go_wp2_with fail
          refine HK.out.mono ?_
          rintro e w3 ⟨v3, rfl, hW3, _⟩
          have HW3 := Hidden.mk (hW3.trans HM0.out)
          clear hW3 HK
          go_wp2_with fail
          go_ret
          exact ⟨_, rfl, by rw [HX2.out]; simpa using HW3.out⟩
end Go.Proofs.Ythcjnijggebcaaa
