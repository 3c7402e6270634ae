/- sift.Less: its question. -/
import Derived.Test.YtfioekkegihkoaaSiftG
import Derived.Test.YtfioekkegihkoaaLessP
namespace Go.Proofs.Ytfioekkegihkoaa
open Go.RowKit Go.Shelf
set_option linter.unusedVariables false
set_option linter.unusedSimpArgs false
set_option maxRecDepth 100000 in
set_option maxHeartbeats 1000000 in
theorem less_is {W : World} {Bo j : Nat} {rw0 : List Nat} {m l : List Int} {x : Int} (hm : m.Pairwise (· < ·)) (hml : m.length ≤ 1000000) (hl : l.Pairwise (· < ·)) (hx : l[j]? = some x) (h : LessInv Bo rw0 m l j W) (hB : Bo ∉ rw0) :
    Calls Try.prog 74 #[.int .u64 x, .pointer (some ⟨Bo, 0, none⟩)] W fun e W' => e = .returned (.bool (!decide (x ∈ m))) ∧ LessInv Bo rw0 m l (j + 1) W' ∧ Mod [Bo] W W' := by
  obtain ⟨v, r, hb, hv, hrb, hr⟩ := h
  obtain ⟨pa, cap, rfl, -⟩ := hv.slice_
  obtain ⟨n0, hn0⟩ : ∃ n0, (m.drop r).length = n0 := ⟨_, rfl⟩
  rw [hn0] at hb hrb hv
  have hrx := hr j x (Nat.le_refl _) hx
  have HI := Hidden.mk (sift_in x hv (by rw [List.length_drop]; omega) (rises_le (hm.sublist (List.drop_sublist _ _))))
  rw [decide_eq_decide.2 (mem_drop_rk hm hrx)] at HI
  have HP : Hidden ((m.drop r).drop (rk (m.drop r) x) = m.drop (rk m x)) := ⟨by rw [List.drop_drop, ← rk_drop hm hrx]⟩
  rw [HP.out] at HI
  have HN : Hidden (∀ i y, j + 1 ≤ i → l[i]? = some y → rk m y ≥ rk m x) := ⟨fun i y hi hy => by
    have hxy : x < y := by
      obtain ⟨h1, e1⟩ := List.getElem?_eq_some_iff.1 hx
      obtain ⟨h2, e2⟩ := List.getElem?_eq_some_iff.1 hy
      have h3 := (List.pairwise_iff_getElem.1 hl) j i h1 h2 (by omega)
      rw [e1, e2] at h3
      exact h3
    unfold rk
    exact List.countP_mono_left (fun z _ hz => by simp at hz ⊢; omega)⟩
  have HB := Hidden.mk (And.intro hb hrb)
  have c0 : W.cell? ⟨Bo, 0, none⟩ = some (.slice pa n0 cap) := hb.cell 0
  have f0 := hb.frozen 0
  have l0 := hb.lt
  obtain ⟨d, hd⟩ : ∃ d, decide (x ∈ m) = d := ⟨_, rfl⟩
  rw [hd] at HI ⊢
  have HBB := Hidden.mk hB
  clear hb hv hrb hr hrx hd hm hl hx hml hB hn0 HP
  go_enter Try.func74, Try.ntmps74
  go_wp2_with fail
  refine HI.out.mono ?_
  rintro e w1 ⟨v', rfl, hv', rfl, hrb'⟩
  obtain ⟨pb, cap2, rfl, -⟩ := hv'.slice_
  have H1 := Hidden.mk (And.intro hv' hrb')
  obtain ⟨n1, hn1⟩ : ∃ n1, (m.drop (rk m x)).length = n1 := ⟨_, rfl⟩
  rw [hn1] at H1 ⊢
  clear hv' hrb' hn1
  go_wp2_with fail
  go_ret
  have hs : Mod [Bo] W (W.setCell ⟨Bo, 0, none⟩ (.slice pb n1 cap2)) := (Mod.refl _ W).set (.inl (by simp)) _
  refine ⟨rfl, ⟨.slice pb n1 cap2, rk m x, by simpa using HB.out.1.set 0 (.slice pb n1 cap2), H1.out.1.modl hs (fun b hb hq => ?_), fun b hb => HB.out.2 b (H1.out.2 b hb), HN.out⟩, hs⟩
  simp at hq; subst hq; exact HBB.out (HB.out.2 _ (H1.out.2 _ hb))
end Go.Proofs.Ytfioekkegihkoaa
