/- The document's list of entries in memory: less, Find, Do; same. -/
import Derived.Test.YtnbanbfnabhjjaaEntM
import Derived.Test.YtnbanbfnabhjjaaHashTold
namespace Go.Proofs.Ytnbanbfnabhjjaa
open Go.RowKit
set_option linter.unusedVariables false
set_option linter.unusedSimpArgs false
theorem encT_len (e : HK × Int) : (encT e).length = 3 := rfl
/-- A row of the document's entries. -/
abbrev ERow (w : World) (v : Value) (l : EL) : Prop := Row w 149 3 v l.length (l.flatMap encT)
theorem ERow.at_ {w : World} {b : Option Addr} {cap : Nat} {l : EL} (h : ERow w (.slice b l.length cap) l) {i : Nat} {x : HK × Int} (hi : l[i]? = some x) : ∃ g, b = some ⟨g, 0, none⟩ ∧ g < w.heap.size ∧ l.length ≤ cap ∧ cap ≤ 9223372036854775807 ∧
    w.cell? ⟨g, i * 3, none⟩ = some (.int .u8 x.1.1) ∧ w.cell? ⟨g, i * 3 + 1, none⟩ = some (.int .u64 x.1.2) ∧ w.cell? ⟨g, i * 3 + 2, none⟩ = some (.int .u64 x.2) := by
  have hlt := (List.getElem?_eq_some_iff.1 hi).1
  obtain ⟨g, cap', hv, _, h3, h4, h5, h6, _⟩ := Row.at_ h (by omega)
  injection hv with e1 e2 e3
  have hf := fun j (hj : j < 3) => flat_get encT 3 encT_len l i j hj
  refine ⟨g, e1, h5, by omega, by omega, ?_, ?_, ?_⟩
  · have := h6 (i * 3) (by omega); rw [this]; have := hf 0 (by omega); rw [Nat.add_zero] at this; rw [this, hi]; rfl
  · rw [h6 _ (by omega), hf 1 (by omega), hi]; rfl
  · rw [h6 _ (by omega), hf 2 (by omega), hi]; rfl
set_option maxHeartbeats 1000000 in
theorem ref05_less (a b v l p : Int) (w : World) : Calls Try.prog 130 #[.agg #[.int .u8 a, .int .u64 b, .int .u64 v], .int .u8 l, .int .u64 p] w fun e w' => e = .returned (.bool (ltK (a, b) (l, p))) ∧ Mod [] w w' := by
  have hm := (Mod.refl [] w).alloc (.cells #[.int .u8 a, .int .u64 b, .int .u64 v] 149)
  unfold ltK
  simp only
  rcases (show a < l ∨ (¬ a < l ∧ a = l ∧ b < p) ∨ (¬ a < l ∧ a = l ∧ ¬ b < p) ∨ (¬ a < l ∧ a ≠ l) by omega) with h | ⟨h1, rfl, h2⟩ | ⟨h1, rfl, h2⟩ | ⟨h1, h2⟩
  · have hd : decide (a < l) = true := by simp [h]
    rw [hd]
    have HM := Hidden.mk hm
    clear hm
    go_enter Try.func130, Try.ntmps130
    go_wp2
    go_ret
    exact ⟨rfl, HM.out⟩
  · have hd : decide (a < a) = false := by simp
    have hd2 : decide (b < p) = true := by simp [h2]
    rw [hd, hd2]
    have HM := Hidden.mk hm
    clear hm h1
    simp only [decide_true, Bool.and_true, Bool.or_true]
    go_enter Try.func130, Try.ntmps130
    go_wp2
    go_ret
    exact ⟨rfl, HM.out⟩
  · have hd : decide (a < a) = false := by simp
    have hd2 : decide (b < p) = false := by simp; omega
    rw [hd, hd2]
    have HM := Hidden.mk hm
    clear hm h1
    simp only [decide_true, Bool.and_false, Bool.or_false]
    go_enter Try.func130, Try.ntmps130
    go_wp2
    go_ret
    exact ⟨rfl, HM.out⟩
  · have hd : decide (a < l) = false := by simp; omega
    have hd2 : decide (a = l) = false := by simp [h2]
    have hd3 : (a == l) = false := by simp [h2]
    rw [hd, hd2]
    have HM := Hidden.mk hm
    clear hm h1
    simp only [Bool.false_and, Bool.or_false]
    go_enter Try.func130, Try.ntmps130
    go_wp2
    go_ret
    exact ⟨rfl, HM.out⟩
set_option maxRecDepth 100000 in
set_option maxHeartbeats 2000000 in
theorem ref05_find (l : EL) (v : Value) (lv px : Int) (w : World) (h : ERow w v l) (hl : l.length ≤ 1000) :
    Calls Try.prog 122 #[v, .int .u8 lv, .int .u64 px] w fun e w' => e = .returned (.tuple #[.int .i64 (fposE l (lv, px) : Nat), .bool (fisE l (lv, px))]) ∧ Mod [] w w' := by
  obtain ⟨b, cap, rfl, k1, k2⟩ := h.slice_
  have hpl := fposE_le l (lv, px)
  have hge := fposE_ge l (lv, px)
  have hlt := fposE_lt l (lv, px)
  have hfis : ∀ x, l[fposE l (lv, px)]? = some x → fisE l (lv, px) = (decide (x.1.1 = lv) && decide (x.1.2 = px)) := by
    intro x hx
    unfold fisE; rw [hx]; simp only
    by_cases h1 : x.1.1 = lv <;> by_cases h2 : x.1.2 = px <;> simp [Prod.ext_iff, h1, h2]
  have hfn : l.length ≤ fposE l (lv, px) → fisE l (lv, px) = false := fun hp => by unfold fisE; rw [List.getElem?_eq_none hp]
  generalize fposE l (lv, px) = p at *
  generalize fisE l (lv, px) = ok at *
  have HR := Hidden.mk h
  have HF := Hidden.mk (And.intro hge (And.intro hlt (And.intro hfis hfn)))
  clear h hge hlt hfis hfn
  go_enter Try.func122, Try.ntmps122
  go_wp2_with fail
  go_loopw [8] (fun iv wr => ∃ j : Nat, j ≤ p ∧ iv = .int .i64 j ∧ Mod [] w wr) (fun iv _ => l.length - (intOf iv).toNat)
  case atStart => exact ⟨0, by omega, rfl, Mod.refl _ _⟩
  case round =>
    obtain ⟨j, hj, rfl, hM⟩ := hrel
    by_cases hjl : j < l.length
    · have hx := List.getElem?_eq_getElem hjl
      generalize l[j] = x at hx
      obtain ⟨g, rfl, hg, q1, q2, c0, c1, c2⟩ := ERow.at_ (HR.out.mod hM (by simp)) hx
      have hless := ref05_less x.1.1 x.1.2 x.2 lv px wr
      by_cases hjp : j < p
      · have hK := HF.out.2.1 j x hjp hx
        rw [show ltK (x.1.1, x.1.2) (lv, px) = true from hK] at hless
        have HM := Hidden.mk hM
        clear hM hx hK
        obtain ⟨⟨a, b⟩, vv⟩ := x
        simp only at c0 c1 c2 hless
        go_wp2_with fail
        refine hless.mono ?_; clear hless; rintro e w1 ⟨rfl, hm1⟩
        have HM1 := Hidden.mk hm1
        clear hm1
        go_wp2_with fail
        go_roundw
        case rel => exact ⟨j + 1, by omega, by go_num, HM.out.trans HM1.out (by simp)⟩
        case measure => simp [intOf]; omega
      · obtain rfl : j = p := by omega
        have hK := HF.out.1 x hx
        rw [show ltK (x.1.1, x.1.2) (lv, px) = false from hK] at hless
        have hok := HF.out.2.2.1 x hx
        have hcell : ∀ W, Mod [] wr W → W.cell? ⟨g, j * 3, none⟩ = some (.int .u8 x.1.1) ∧ W.cell? ⟨g, j * 3 + 1, none⟩ = some (.int .u64 x.1.2) := fun W hW => by
          obtain ⟨g', e, _, _, _, d0, d1, _⟩ := ERow.at_ (HR.out.mod (hM.trans hW (by simp)) (by simp)) hx
          injection e with e; injection e with e; subst e; exact ⟨d0, d1⟩
        have HM := Hidden.mk hM
        have HC := Hidden.mk hcell
        obtain ⟨⟨a, b⟩, vv⟩ := x
        simp only at c0 c1 c2 hless hok HC
        have HOK := Hidden.mk hok
        clear hM hK hj hx hcell hok
        go_wp2_with fail
        refine hless.mono ?_; clear hless; rintro e w1 ⟨rfl, hm1⟩
        obtain ⟨d0, d1⟩ := HC.out _ hm1
        have HM1 := Hidden.mk hm1
        clear hm1
        have hjl2 : decide (j < l.length) = true := by simp [hjl]
        rcases (show a ≠ lv ∨ (a = lv ∧ b ≠ px) ∨ (a = lv ∧ b = px) by omega) with ha | ⟨rfl, hb⟩ | ⟨rfl, rfl⟩
        · have e1 : (a == lv) = false := by simp [ha]
          have e2 : decide (a = lv) = false := by simp [ha]
          have HE := Hidden.mk (And.intro HOK.out e2)
          clear e2
          go_wp2_with fail
          go_quiet (fail)
          go_wp2_with fail
          go_ret2
          obtain ⟨q, q'⟩ := HE.out
          rw [q, q']
          exact ⟨rfl, (HM.out.trans HM1.out (by simp)).trans ((Mod.refl [] _).drewN _) (by simp)⟩
        · have e1 : (b == px) = false := by simp [hb]
          have e2 : decide (b = px) = false := by simp [hb]
          have HE := Hidden.mk (And.intro HOK.out e2)
          clear e2
          go_wp2_with fail
          go_quiet (fail)
          go_wp2_with fail
          go_ret2
          obtain ⟨q, q'⟩ := HE.out
          rw [q, q', Bool.and_false]
          exact ⟨rfl, (HM.out.trans HM1.out (by simp)).trans ((Mod.refl [] _).drewN _) (by simp)⟩
        · go_wp2_with fail
          go_quiet (fail)
          go_wp2_with fail
          go_ret2
          rw [HOK.out]
          simp only [decide_true, Bool.and_true]
          exact ⟨rfl, (HM.out.trans HM1.out (by simp)).trans ((Mod.refl [] _).drewN _) (by simp)⟩
    · obtain rfl : p = l.length := by omega
      obtain rfl : j = l.length := by omega
      have hok := HF.out.2.2.2 (Nat.le_refl _)
      subst hok
      have HM := Hidden.mk hM
      clear hM hjl hj hpl
      go_wp2_with fail
      go_quiet (fail)
      go_wp2_with fail
      go_ret2
      exact ⟨rfl, HM.out.trans ((Mod.refl [] _).drewN _) (by simp)⟩
end Go.Proofs.Ytnbanbfnabhjjaa
