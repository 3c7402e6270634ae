/- slices.Clone, Compact at uint16. -/
import Derived.Test.YthcjnijggebcaaaSo16S
import Derived.Test.YthcjnijggebcaaaAsc
import Derived.Test.YthcjnijggebcaaaSlW
namespace Go.Proofs.Ythcjnijggebcaaa
open Go.RowKit
set_option linter.unusedVariables false
set_option linter.unusedSimpArgs false

theorem info16 : (Try.prog.info? 24).map (fun i => (i.zero, i.size, i.bytes)) = some (some (.int .u16 0), 1, 2) := by kernel_rfl
theorem zero16 (w : World) : (zeroValue 24).run Try.prog w = .ok (.int .u16 0) w := by kernel_rfl
set_option maxHeartbeats 1000000 in
theorem clone16 {w : World} {v : Value} {l : List Int} (h : ISl .u16 w v l) (hl : l.length ≤ 1000000000) :
    Calls Try.prog 78 #[v] w fun e w' => ∃ v', e = .returned v' ∧ WayI .u16 24 w w' v' l.length l := by
  obtain ⟨a, cap, rfl, k1, k2, k3, k4⟩ := id h
  have q22 : ∀ (w : World) (a : Option Addr) (n c n' c' : Nat), (binOp .eql 22 (.slice a n c) (.slice none n' c')).run Try.prog w = .ok (.bool a.isNone) w := fun w a n c n' c' => Lib.run_eql_slice_nil w _ _ a n c n' c' Try.underlying22
  cases a with
  | none =>
    have hc := k3 rfl
    have hnil : l = [] := List.eq_nil_of_length_eq_zero (by omega)
    subst hnil
    clear k4
    go_enter Try.func78, Try.ntmps78
    go_wp2
    go_ret
    exact ⟨_, rfl, WayI.nil_ (Mod.refl [] w)⟩
  | some ad =>
    have hw2 := Hidden.mk (WayI.empty (k := .u16) (e := 24) (Mod.refl [] w))
    have hh := Hidden.mk ((h.alloc (.cells #[] 24)).holds)
    have h1 := Hidden.mk (icells_one .u16 l)
    clear k3 k4 h
    go_enter Try.func78, Try.ntmps78
    go_wp2_with (refine wpList_any rfl (.tmp 5) (.tmp 6) 22 rfl 24 (.int .u16 0) 1 2 (by kernel_rfl) info16 rfl (by decide) _ _ _ rfl hw2.out.row _ _ _ rfl hh.out h1.out (by omega) (by omega) ?_; intro b4 c4 w4 hr4 hm4 hf4; have hW4 := Hidden.mk (hw2.out.next hr4 hm4 hf4 (m := l) (by simp [icells])); clear hr4 hm4 hf4 hw2)
    go_ret
    exact ⟨_, rfl, by have := hW4.out; simpa using this⟩
set_option maxHeartbeats 2000000 in
theorem compact16 {w : World} {v : Value} {l : List Int} (h : Row w 24 1 v l.length (icells .u16 l)) (hl : l.length ≤ 1000000000) :
    Calls Try.prog 83 #[v] w fun e w' => ∃ v', e = .returned v' ∧ Row w' 24 1 v' (cpc l).length (icells .u16 (cpc l)) ∧ rb v' = rb v ∧ Mod (rb v) w w' := by
  by_cases h2 : l.length < 2
  · have e : cpc l = l := by
      unfold cpc
      rw [cpt_take _ (Nat.le_refl _) (fun i h1 h2 => by omega), List.take_length]
    obtain ⟨a, cap, rfl, k1, k2⟩ := h.slice_
    have H := Hidden.mk h
    have H2 := Hidden.mk e
    clear h e
    have h2z : (l.length : Int) < 2 := by omega
    go_enter Try.func83, Try.ntmps83
    go_wp2
    go_ret
    exact ⟨_, rfl, by rw [H2.out]; exact H.out, rfl, Mod.refl _ _⟩
  · obtain ⟨g, cap, rfl, hrb, hS, k1, k2⟩ := SR.of_row h (by omega)
    have H := Hidden.mk (And.intro h hrb)
    have HS := Hidden.mk hS
    clear h hS hrb
    generalize hn : l.length = n at *
    have HN := Hidden.mk hn
    clear hn
    have hG : ∃ L : Nat → Int, ∀ t, L t = l.getD t 0 := ⟨fun t => l.getD t 0, fun _ => rfl⟩
    obtain ⟨L, hL⟩ := hG
    have HL := Hidden.mk hL
    have hd0 : Hidden (∀ t, t < n → l.toArray[t]! = L t) := ⟨fun t ht => by rw [hL]; have := HN.out; simp [List.getD_eq_getElem?_getD, show t < l.length by omega]⟩
    clear hL
    go_enter Try.func83, Try.ntmps83
    go_wp2_with fail
    go_loopw [3] (fun vk wr => ∃ k : Nat, vk = .int .i64 k ∧ 1 ≤ k ∧ k ≤ n ∧ SR .u16 24 cap g 0 n w wr l.toArray ∧ (∀ i, 0 < i → i < k → L i ≠ L (i - 1))) (fun vk _ => n - (intOf vk).toNat)
    case atStart => exact ⟨1, rfl, by omega, by omega, HS.out, by omega⟩
    case round =>
      obtain ⟨k, rfl, hk1, hk2, hS, hne⟩ := hrel
      have hcw : ∀ t, t < n → wr.cell? ⟨g, 0 + t, none⟩ = some (.int .u16 (L t)) := fun t ht => by rw [← hd0.out t ht]; exact hS.cell ht
      have hfw : ∀ t, t < n → wr.frozen? ⟨g, 0 + t, none⟩ = false := fun t ht => hS.free _
      have HS := Hidden.mk hS
      have HNE := Hidden.mk hne
      clear hS hne
      by_cases hkn : k < n
      · by_cases heq : L k = L (k - 1)
        · have c1 : wr.cell? ⟨g, k, none⟩ = some (.int .u16 (L k)) := by have := hcw k hkn; rwa [Nat.zero_add] at this
          have c2 : wr.cell? ⟨g, k - 1, none⟩ = some (.int .u16 (L (k - 1))) := by have := hcw (k - 1) (by omega); rwa [Nat.zero_add] at this
          have hbq : (L k == L (k - 1)) = true := by simp [heq]
          have HEQ := Hidden.mk heq
          clear hcw hfw heq
          go_wp2_with fail
          go_quiet (fail)
          go_wp2_with fail
          have hk0 : (cpt l k).length = k ∧ cpt l (k + 1) = l.take k := by
            have e1 : cpt l k = l.take k := cpt_take k (by rw [HN.out]; omega) (fun i h1 h2 => by rw [← HL.out, ← HL.out]; exact HNE.out i h1 h2)
            refine ⟨by rw [e1, List.length_take, HN.out]; omega, ?_⟩
            rw [cpt_old hk1 (by rw [← HL.out, ← HL.out]; exact HEQ.out), e1]
          have HK0 := Hidden.mk hk0
          clear hk0
          go_loopw [3, 5] (fun vk vj wr => ∃ (k' j : Nat) (dk : Array Int), vk = .int .i64 k' ∧ vj = .int .i64 j ∧ 1 ≤ j ∧ k + j ≤ n ∧ 1 ≤ k' ∧ k' + 1 ≤ k + j ∧ SR .u16 24 cap g 0 n w wr dk ∧ (cpt l (k + j)).length = k' ∧ (∀ t, t < k' → dk[t]! = (cpt l (k + j)).getD t 0) ∧ (∀ t, k + j ≤ t + 1 → t < n → dk[t]! = L t)) (fun _ vj _ => n - (intOf vj).toNat)
          case atStart =>
            refine ⟨k, 1, l.toArray, rfl, rfl, by omega, by omega, by omega, by omega, HS.out.drewN _, ?_, fun t ht => ?_, fun t h1 h2 => hd0.out t h2⟩
            · rw [HK0.out.2, List.length_take, HN.out]; omega
            · rw [HK0.out.2, hd0.out t (by omega), HL.out]
              simp [List.getD_eq_getElem?_getD, List.getElem?_take_of_lt ht]
          case round =>
            obtain ⟨k2, j, dk, rfl, rfl, hj1, hj2, hk3, hk4, hS, hlen, hpre, hpost⟩ := hrel
            have HS := Hidden.mk hS
            have HLEN := Hidden.mk hlen
            have HPRE := Hidden.mk hpre
            have HPOST := Hidden.mk hpost
            clear hS hlen hpre hpost
            by_cases hjn : k + j < n
            · have c1 : wr.cell? ⟨g, k + j, none⟩ = some (.int .u16 (L (k + j))) := by
                have := HS.out.cell (t := k + j) hjn
                rwa [Nat.zero_add, HPOST.out (k + j) (by omega) hjn] at this
              have c2 : wr.cell? ⟨g, k + (j - 1), none⟩ = some (.int .u16 (L (k + (j - 1)))) := by
                have := HS.out.cell (t := k + (j - 1)) (by omega)
                rwa [Nat.zero_add, HPOST.out (k + (j - 1)) (by omega) (by omega)] at this
              have c3 : wr.cell? ⟨g, k2, none⟩ = some (.int .u16 dk[k2]!) := by
                have := HS.out.cell (t := k2) (by omega)
                rwa [Nat.zero_add] at this
              have f3 : wr.frozen? ⟨g, k2, none⟩ = false := HS.out.free _
              generalize dk[k2]! = old at c3
              have hjz : (j : Int) < (n : Int) - (k : Int) := by omega
              have hgd : L (k + j) = l.getD (k + j) 0 := HL.out _
              have hgd1 : L (k + (j - 1)) = l.getD (k + j - 1) 0 := by rw [HL.out]; congr 1; omega
              have HGD := Hidden.mk (And.intro hgd hgd1)
              clear hgd hgd1
              by_cases heq : L (k + j) = L (k + (j - 1))
              · have hbq : (L (k + j) != L (k + (j - 1))) = false := by simp [heq]
                have e := Hidden.mk (cpt_old (l := l) (j := k + j) (by omega) (by rw [← HGD.out.1, ← HGD.out.2]; exact heq))
                clear heq
                go_wp2_with fail
                go_quiet (fail)
                go_wp2_with fail
                go_roundw
                case rel => exact ⟨k2, j + 1, dk, rfl, by go_num, by omega, by omega, hk3, by omega, HS.out.drewN _, by rw [← Nat.add_assoc, e.out]; exact HLEN.out, fun t ht => by rw [← Nat.add_assoc, e.out]; exact HPRE.out t ht, fun t h1 h2 => HPOST.out t (by omega) h2⟩
                case measure => simp [intOf]; omega
              · have hbq : (L (k + j) != L (k + (j - 1))) = true := by simp [heq]
                have e := Hidden.mk (cpt_new (l := l) (j := k + j) (.inr (by rw [← HGD.out.1, ← HGD.out.2]; exact heq)))
                clear heq
                go_wp2_with fail
                go_quiet (fail)
                go_wp2_with fail
                go_roundw
                case rel =>
                  have hS2 := (HS.out.drewN nq).set (i := k2) (by omega) (L (k + j))
                  rw [Nat.zero_add] at hS2
                  have hz := HS.out.size
                  refine ⟨k2 + 1, j + 1, _, by go_num, by go_num, by omega, by omega, by omega, by omega, hS2, ?_, fun t ht => ?_, fun t h1 h2 => ?_⟩
                  · rw [← Nat.add_assoc, e.out, List.length_append, HLEN.out]; rfl
                  · rw [← Nat.add_assoc, e.out]
                    rcases Nat.lt_or_ge t k2 with h1 | h1
                    · rw [Sort.getElem!_set_other _ _ _ _ (by omega), HPRE.out t h1]
                      simp [List.getD_eq_getElem?_getD, List.getElem?_append_left (show t < (cpt l (k + j)).length by rw [HLEN.out]; exact h1)]
                    · have : t = k2 := by omega
                      subst this
                      rw [Sort.getElem!_set_same _ _ _ (by omega), HGD.out.1]
                      simp [List.getD_eq_getElem?_getD, ← HLEN.out]
                  · rw [Sort.getElem!_set_other _ _ _ _ (by omega)]
                    exact HPOST.out t (by omega) h2
                case measure => simp [intOf]; omega
            · have hjz : ¬ (j : Int) < (n : Int) - (k : Int) := by omega
              have hkn2 : k2 < n := by omega
              go_wp2_with (refine wpList_clear_part rfl (.tmp 56) 22 rfl Try.underlying22 zero16 HS.out hkn2 k1 rfl ?_; intro w5 hS5; have HS5 := Hidden.mk hS5; clear hS5)
              go_ret
              have hkj : k + j = l.length := by rw [HN.out]; omega
              have e : (dk.extract 0 k2).toList = cpc l := by
                unfold cpc
                rw [← hkj]
                have hz := HS.out.size
                apply List.ext_getElem?
                intro t
                by_cases ht : t < k2
                · have h1 := HPRE.out t ht
                  have h2 : (cpt l (k + j))[t]? = some ((cpt l (k + j)).getD t 0) := by
                    rw [List.getD_eq_getElem?_getD, List.getElem?_eq_getElem (by rw [HLEN.out]; exact ht)]; rfl
                  rw [h2, ← h1]
                  have : t < dk.size := by omega
                  simp [this, ht]
                · rw [List.getElem?_eq_none (by simp; omega), List.getElem?_eq_none (by rw [HLEN.out]; omega)]
              have e2 : (cpc l).length = k2 := by unfold cpc; rw [← hkj]; exact HLEN.out
              refine ⟨_, rfl, ?_, by simp [rb, Value.ownBlock], by rw [H.out.2]; exact HS5.out.mod⟩
              rw [e2, ← e]
              exact SR.to_row HS5.out (Row.cut H.out.1 (by omega))
        · have hbq : (L k == L (k - 1)) = false := by simp [heq]
          have c1 : wr.cell? ⟨g, k, none⟩ = some (.int .u16 (L k)) := by have := hcw k hkn; rwa [Nat.zero_add] at this
          have c2 : wr.cell? ⟨g, k - 1, none⟩ = some (.int .u16 (L (k - 1))) := by have := hcw (k - 1) (by omega); rwa [Nat.zero_add] at this
          have HEQ := Hidden.mk heq
          clear hcw hfw heq
          go_wp2_with fail
          go_quiet (fail)
          go_wp2_with fail
          go_roundw
          case rel => exact ⟨k + 1, by go_num, by omega, by omega, HS.out.drewN _, fun i h1 h2 => by rcases Nat.lt_or_ge i k with h3 | h3; exact HNE.out i h1 h3; (have : i = k := by omega); subst this; exact HEQ.out⟩
          case measure => simp [intOf]; omega
      · go_wp2_with fail
        go_ret
        have e : cpc l = l := by
          unfold cpc
          rw [cpt_take _ (Nat.le_refl _) (fun i h1 h2 => by rw [← HL.out, ← HL.out]; exact HNE.out i h1 (by have := HN.out; omega)), List.take_length]
        refine ⟨_, rfl, ?_, rfl, by rw [H.out.2]; exact HS.out.mod⟩
        rw [e, HN.out]
        exact SR.to_row HS.out H.out.1
end Go.Proofs.Ythcjnijggebcaaa
