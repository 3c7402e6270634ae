/- sift.And: its question. -/
import Derived.Test.YtfioekkegihkoaaSiftK
import Derived.Test.YtfioekkegihkoaaLessP
import Derived.Test.YtfioekkegihkoaaPickV
namespace Go.Proofs.Ytfioekkegihkoaa
open Go.RowKit Go.Shelf
set_option linter.unusedVariables false
set_option linter.unusedSimpArgs false
theorem infoS64 : (Try.prog.info? 23).map (fun i => (i.zero, i.size, i.bytes)) = some (some (.slice none 0 0), 1, 24) := by kernel_rfl
/-- What And's question holds: of each other list what is left of it. -/
def Rests (W : World) (us : List Value) (rw : List Nat) (ms : List (List Int)) (l : List Int) (J : Nat → Nat) : Prop :=
  ∀ p m, ms[p]? = some m → ∃ u r, us[p]? = some u ∧ ISl .u64 W u (m.drop r) ∧ (∀ b ∈ rbl u (m.drop r), b ∈ rw) ∧ ∀ i y, J p ≤ i → l[i]? = some y → r ≤ rk m y
def AndInv (Bo : Nat) (vO : Value) (rw : List Nat) (ms : List (List Int)) (l : List Int) (j : Nat) (W : World) : Prop :=
  ∃ us, Blk W Bo 40 #[vO] ∧ Row W 23 1 vO ms.length us ∧ Rests W us rw ms l (fun _ => j)
theorem rk_step {m l : List Int} {x : Int} {j : Nat} (hl : l.Pairwise (· < ·)) (hx : l[j]? = some x) : ∀ i y, j + 1 ≤ i → l[i]? = some y → rk m x ≤ rk m y := fun i y hi hy => by
  have hxy : x < y := by
    obtain ⟨h1, e1⟩ := List.getElem?_eq_some_iff.1 hx
    obtain ⟨h2, e2⟩ := List.getElem?_eq_some_iff.1 hy
    have h3 := (List.pairwise_iff_getElem.1 hl) j i h1 h2 (by omega)
    rw [e1, e2] at h3
    exact h3
  unfold rk
  exact List.countP_mono_left (fun z _ hz => by simp at hz ⊢; omega)
theorem Rests.mod {W W' : World} {us : List Value} {rw : List Nat} {ms : List (List Int)} {l : List Int} {J : Nat → Nat} {S : List Nat} (h : Rests W us rw ms l J) (hm : Mod S W W') (hS : ∀ q ∈ S, q ∉ rw) : Rests W' us rw ms l J := by
  intro p m hp
  obtain ⟨u, r, h1, h2, h3, h4⟩ := h p m hp
  exact ⟨u, r, h1, h2.modl hm (fun b hb hq => hS _ hq (h3 b hb)), h3, h4⟩
/-- One of them goes on. -/
theorem Rests.step {W : World} {us : List Value} {rw : List Nat} {ms : List (List Int)} {l m : List Int} {i j : Nat} {x : Int} {u' : Value} (h : Rests W us rw ms l (fun p => if p < i then j + 1 else j)) (hm : ms[i]? = some m) (hl : l.Pairwise (· < ·)) (hx : l[j]? = some x) (hlen : i < us.length)
    (hu : ISl .u64 W u' (m.drop (rk m x))) (hr : ∀ b ∈ rbl u' (m.drop (rk m x)), b ∈ rw) : Rests W (us.set i u') rw ms l (fun p => if p < i + 1 then j + 1 else j) := by
  intro p m' hp
  by_cases e : p = i
  · subst e
    rw [hm] at hp
    obtain rfl := Option.some.inj hp
    refine ⟨u', rk m x, by rw [List.getElem?_set_self hlen], hu, hr, fun i y hi hy => ?_⟩
    simp only [show p < p + 1 from by omega, if_true] at hi
    exact rk_step hl hx i y hi hy
  · obtain ⟨v, r, h1, h2, h3, h4⟩ := h p m' hp
    refine ⟨v, r, by rw [List.getElem?_set_ne (by omega)]; exact h1, h2, h3, fun k y hk hy => h4 k y ?_ hy⟩
    by_cases h5 : p < i
    · simp only [h5, if_true]; simpa [show p < i + 1 from by omega] using hk
    · simp only [h5, if_false]; simpa [show ¬ p < i + 1 from by omega] using hk
set_option maxRecDepth 100000 in
set_option maxHeartbeats 2000000 in
theorem and_is {W : World} {Bo j : Nat} {vO : Value} {rw : List Nat} {ms : List (List Int)} {l : List Int} {x : Int} (hms : ∀ m ∈ ms, m.Pairwise (· < ·)) (hml : ∀ m ∈ ms, m.length ≤ 1000000) (hn : ms.length ≤ 1000) (hl : l.Pairwise (· < ·)) (hx : l[j]? = some x)
    (h : AndInv Bo vO rw ms l j W) (hB : Bo ∉ rw) (hBv : Bo ∉ rb vO) (hrv : ∀ b ∈ rw, b ∉ rb vO) :
    Calls Try.prog 71 #[.int .u64 x, .pointer (some ⟨Bo, 0, none⟩)] W fun e W' => e = .returned (.bool (ms.all (fun m => decide (x ∈ m)))) ∧ AndInv Bo vO rw ms l (j + 1) W' ∧ Mod (rb vO) W W' := by
  obtain ⟨us, hb, hrow, hrest⟩ := h
  have HF := Hidden.mk (And.intro hms (And.intro hml (And.intro hl (And.intro hx (And.intro hB (And.intro hBv hrv))))))
  obtain ⟨n, hn'⟩ : ∃ n, ms.length = n := ⟨_, rfl⟩
  rw [hn'] at hrow hn
  obtain ⟨aO, cO, rfl, -⟩ := hrow.slice_
  have c0 : W.cell? ⟨Bo, 0, none⟩ = some (.slice aO n cO) := hb.cell 0
  have H0 := Hidden.mk (And.intro hb (And.intro hrow hrest))
  have HN := Hidden.mk hn'
  clear hb hrow hrest hms hml hl hx hB hBv hrv hn'
  go_enter Try.func71, Try.ntmps71
  go_wp2_with fail
  clear c0
  go_loopw [4, 5, 6, 9] (fun vb _ _ iv wr => ∃ (i : Nat) (us : List Value), i ≤ n ∧ iv = .int .i64 i ∧ vb = .bool ((ms.take i).all (fun m => decide (x ∈ m))) ∧ Blk wr Bo 40 #[.slice aO n cO] ∧ Row wr 23 1 (.slice aO n cO) n us ∧ Mod (rb (.slice aO n cO)) W wr ∧ Rests wr us rw ms l (fun p => if p < i then j + 1 else j)) (fun _ _ _ iv _ => n - (intOf iv).toNat)
  case atStart => exact ⟨0, us, Nat.zero_le _, rfl, rfl, H0.out.1, H0.out.2.1, Mod.refl _ _, by simpa using H0.out.2.2⟩
  case round =>
    obtain ⟨i, us, hi, rfl, rfl, hb, hrow, hmo, hrest⟩ := hrel
    obtain ⟨is, his⟩ : ∃ is, (ms.take i).all (fun m => decide (x ∈ m)) = is := ⟨_, rfl⟩
    rw [his]
    by_cases hin : i < n
    · have hd : decide ((i : Int) < (n : Int)) = true := decide_eq_true (by omega)
      have hw1 : IntKind.i64.wrap ((i : Int) + 1) = i + 1 := IntWalk.i64_in _ (by omega)
      obtain ⟨m, hm⟩ : ∃ m, ms[i]? = some m := ⟨_, List.getElem?_eq_getElem (by rw [HN.out]; exact hin)⟩
      obtain ⟨u, r, hu, hI, hrb, hrr⟩ := hrest i m hm
      obtain ⟨pu, ku, rfl, -⟩ := hI.slice_
      obtain ⟨nu, hnu⟩ : ∃ nu, (m.drop r).length = nu := ⟨_, rfl⟩
      rw [hnu] at hu hrb hI
      obtain ⟨g, cap, he, hrg, hnc, hc63, hglt, hcell, hfro⟩ := hrow.at_ (by omega)
      injection he with e1 e2 e3
      subst e1 e3
      have hmem := List.mem_of_getElem? hm
      have hxr := hrr j x (by simp) HF.out.2.2.2.1
      have hin' := sift_in x hI.drew (by rw [List.length_drop]; have := HF.out.2.1 m hmem; omega) (rises_le ((HF.out.1 m hmem).sublist (List.drop_sublist _ _)))
      rw [decide_eq_decide.2 (mem_drop_rk (HF.out.1 m hmem) hxr), List.drop_drop, ← rk_drop (HF.out.1 m hmem) hxr] at hin'
      have HI := Hidden.mk hin'
      have ci : wr.cell? ⟨g, i, none⟩ = some (.slice pu nu ku) := by rw [hcell i (by omega)]; exact hu
      have fi := hfro i
      have cb : wr.cell? ⟨Bo, 0, none⟩ = some (.slice (some ⟨g, 0, none⟩) n cO) := hb.cell 0
      have hgB : g ≠ Bo := fun e => HF.out.2.2.2.2.2.1 (by rw [hrg, ← e]; simp)
      obtain ⟨d, hd'⟩ : ∃ d, decide (x ∈ m) = d := ⟨_, rfl⟩
      rw [hd'] at HI
      have htk : Hidden ((ms.take (i + 1)).all (fun m => decide (x ∈ m)) = (is && d)) := ⟨by rw [List.take_add_one, hm, List.all_append, his]; simp [hd']⟩
      have HE := Hidden.mk (And.intro hb (And.intro hrow (And.intro hmo (And.intro hrest (And.intro hm (And.intro hrb hrg))))))
      clear hb hrow hmo hrest hm hrb hrr hI hu hnu hcell hfro hmem hxr hin' hd' his hrg
      go_wp2_with fail
      obtain ⟨wr', hwr⟩ : ∃ wr', wr.drew = wr' := ⟨_, rfl⟩
      rw [hwr] at HI
      have HE2 : Hidden (Blk wr' Bo 40 #[.slice (some ⟨g, 0, none⟩) n cO] ∧ Row wr' 23 1 (.slice (some ⟨g, 0, none⟩) n cO) n us ∧ Mod (rb (.slice (some ⟨g, 0, none⟩) n cO)) W wr' ∧ Rests wr' us rw ms l (fun p => if p < i then j + 1 else j)) := ⟨by rw [← hwr]; exact HE.out.1.drew, by rw [← hwr]; exact HE.out.2.1.drew, by rw [← hwr]; exact HE.out.2.2.1.drew, by rw [← hwr]; exact HE.out.2.2.2.1.mod (Mod.refl [] wr).drew (by simp)⟩
      have fi' : wr'.frozen? ⟨g, i, none⟩ = false := by rw [← hwr]; exact fi
      have cb' : wr'.cell? ⟨Bo, 0, none⟩ = some (.slice (some ⟨g, 0, none⟩) n cO) := by rw [← hwr]; exact cb
      have ci' : wr'.cell? ⟨g, i, none⟩ = some (.slice pu nu ku) := by rw [← hwr]; exact ci
      refine wp_region_pick (C := fun W2 => W2.cell? ⟨Bo, 0, none⟩ = some (.slice (some ⟨g, 0, none⟩) n cO)) [(0, true), (1, true), (2, true), (3, true), (4, true), (6, true), (5, false), (7, false), (8, true), (9, true), (10, true), (11, true), (12, false), (13, true)] (by kernel_rfl) (by kernel_rfl) cb ?_
      rw [hwr]
      clear hwr ci cb fi
      have hi0 : (0 : Int) ≤ (i : Int) := by omega
      have hi1 : (i : Int) < (n : Int) := by omega
      refine pick_stillC (.slice (some ⟨g, 0, none⟩) n cO) rfl (by kernel_rfl) (fun W2 hW2 => by simp [go_sem, hW2]) ?_
      go_simp
      refine pick_move _ rfl (.inl rfl) (by kernel_rfl) ?_
      go_simp
      refine pick_stillC (.slice (some ⟨g, 0, none⟩) n cO) rfl (by kernel_rfl) (fun W2 hW2 => by simp [go_sem, hW2]) ?_
      go_simp
      refine pick_move _ rfl (.inl rfl) (by kernel_rfl) ?_
      go_simp
      refine pick_still (.pointer (some ⟨g, i, none⟩)) rfl (by kernel_rfl) (fun W2 => by simp [go_sem, hi0, hi1]) ?_
      go_simp
      refine pick_move _ rfl (.inl rfl) (by kernel_rfl) ?_
      go_simp
      refine pick_val (v := .slice pu nu ku) (w' := wr') rfl (by kernel_rfl) (by simp [go_sem, ci']) cb' ?_
      go_simp
      refine pick_call (f := 72) (args := #[.slice pu nu ku, .int .u64 x]) rfl (by kernel_rfl) (by first | kernel_rfl | simp [go_sem]) ?_
      refine HI.out.mono ?_
      rintro e w1 ⟨v', rfl, hv', rfl, hrb'⟩
      obtain ⟨pb, cap2, rfl, -⟩ := hv'.slice_
      obtain ⟨n1, hn1⟩ : ∃ n1, (m.drop (rk m x)).length = n1 := ⟨_, rfl⟩
      rw [hn1] at hv' hrb' ⊢
      have H1 := Hidden.mk (And.intro hv' hrb')
      clear hv' hrb' hn1
      refine ⟨_, rfl, cb', ?_⟩
      go_simp
      refine pick_move _ rfl (.inl rfl) (by kernel_rfl) ?_
      go_simp
      refine pick_still (.slice pb n1 cap2) rfl (by kernel_rfl) (fun W2 => by simp [go_sem]) ?_
      go_simp
      refine pick_still (.bool d) rfl (by kernel_rfl) (fun W2 => by simp [go_sem]) ?_
      go_simp
      refine pick_still (.pointer (some ⟨g, i, none⟩)) rfl (by kernel_rfl) (fun W2 => by simp [go_sem, hi0, hi1]) ?_
      go_simp
      have hcb : (wr'.setCell ⟨g, i, none⟩ (.slice pb n1 cap2)).cell? ⟨Bo, 0, none⟩ = some (.slice (some ⟨g, 0, none⟩) n cO) := (HE2.out.1.far (Ne.symm hgB) _).cell 0
      refine pick_skip (w' := wr'.setCell ⟨g, i, none⟩ (.slice pb n1 cap2)) rfl (by kernel_rfl) (by simp [go_sem, ci', fi']) hcb ?_
      go_simp
      refine pick_move _ rfl (.inr rfl) (by kernel_rfl) ?_
      go_simp
      refine pick_nil ?_
      have hrw : ∀ b ∈ rw, b ∉ [g] := fun b hb => by have h9 := HF.out.2.2.2.2.2.2 b hb; rw [HE.out.2.2.2.2.2.2] at h9; exact h9
      have hmg : Mod [g] wr' (wr'.setCell ⟨g, i, none⟩ (.slice pb n1 cap2)) := (Mod.refl _ wr').set (.inl (by simp)) _
      have hlu : i < us.length := by have h9 := HE2.out.2.1.1; omega
      have hS := Hidden.mk ((HE2.out.2.2.2.mod hmg (fun q hq h => hrw q h hq)).step HE.out.2.2.2.2.1 HF.out.2.2.1 HF.out.2.2.2.1 hlu (H1.out.1.modl hmg (fun b hb => hrw b (HE.out.2.2.2.2.2.1 b (H1.out.2 b hb)))) (fun b hb => HE.out.2.2.2.2.2.1 b (H1.out.2 b hb)))
      have hM := Hidden.mk (HE2.out.2.2.1.trans hmg (fun q hq => .inl (by simp at hq; rw [HE.out.2.2.2.2.2.2, hq]; simp)))
      have hBK := Hidden.mk (HE2.out.1.far (p := ⟨g, i, none⟩) (Ne.symm hgB) (.slice pb n1 cap2))
      have hRw := Hidden.mk (HE2.out.2.1.stored i (.slice pb n1 cap2))
      clear hrw hmg hlu hcb cb' ci' fi' hgB
      cases is with
      | true =>
        go_wp2_with fail
        go_roundw
        case rel => exact ⟨i + 1, _, by omega, by go_num, by rw [htk.out]; rfl, hBK.out, hRw.out, hM.out, hS.out⟩
        case measure => simp [intOf]; omega
      | false =>
        go_wp2_with fail
        go_roundw
        case rel => exact ⟨i + 1, _, by omega, by go_num, by rw [htk.out]; rfl, hBK.out, hRw.out, hM.out, hS.out⟩
        case measure => simp [intOf]; omega
    · obtain rfl : i = n := by omega
      have hd : decide ((i : Int) < (i : Int)) = false := decide_eq_false (by omega)
      have hta : Hidden (is = ms.all (fun m => decide (x ∈ m))) := ⟨by rw [← his, List.take_of_length_le (by rw [HN.out]; exact Nat.le_refl _)]⟩
      have hJ := Hidden.mk (And.intro hb (And.intro hrow (And.intro hmo hrest)))
      clear hb hrow hmo hrest his
      go_wp2_with fail
      go_ret
      refine ⟨by rw [hta.out]; rfl, ⟨us, hJ.out.1, by rw [HN.out]; exact hJ.out.2.1, fun p m hp => ?_⟩, hJ.out.2.2.1⟩
      obtain ⟨u, r, h1, h2, h3, h4⟩ := hJ.out.2.2.2 p m hp
      refine ⟨u, r, h1, h2, h3, fun k y hk hy => h4 k y ?_ hy⟩
      have : p < i := by have := (List.getElem?_eq_some_iff.1 hp).1; have := HN.out; omega
      simpa [this] using hk
end Go.Proofs.Ytfioekkegihkoaa
