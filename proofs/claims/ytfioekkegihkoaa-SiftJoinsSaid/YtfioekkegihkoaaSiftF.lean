/- sift.told's sequence, over a question that may turn blocks of its own. -/
import Derived.Test.YtfioekkegihkoaaSiftE
namespace Go.Proofs.Ytfioekkegihkoaa
open Go.RowKit Go.Shelf
attribute [local go_sem] Oper.semAt_some
set_option linter.unusedVariables false
set_option linter.unusedSimpArgs false
set_option maxRecDepth 100000 in
set_option maxHeartbeats 4000000 in
theorem told_call {W : World} {sv : Value} {l : List Int} {Rs D C : List Nat} {B1 B2 fi B0 ly : Nat} {lbi : Array Value} {f : Int → Bool} {Inv : Nat → World → Prop} {J Jx : List Int → List Nat → World → Prop}
    (hs : SeqL W sv l Rs) (hl : l.length ≤ 1000000) (b1 : W.cell? ⟨B1, 0, none⟩ = some sv) (b2 : W.cell? ⟨B2, 0, none⟩ = some (.func (.func fi) #[] lbi))
    (efi : ∀ args W, (callFunc fi args).run Try.prog W = .ok (.enter fi args) W)
    (h0 : Inv 0 W) (hab : ∀ j W W' S, Inv j W → Mod S W W' → (∀ q ∈ S, q ∉ D) → Inv j W')
    (hst : ∀ j x W, l[j]? = some x → Inv j W → Calls Try.prog fi (#[.int .u64 x] ++ lbi) W fun e W' => e = .returned (.bool (f x)) ∧ Inv (j + 1) W' ∧ Mod D W W')
    (hD : ∀ q ∈ D, B0 ≤ q ∧ q < W.heap.size ∧ q ∉ C ∧ q ≠ B2) (hB0 : B0 ≤ W.heap.size) (hC : ∀ q ∈ C, q < W.heap.size ∧ q ≠ B2) (hJ : AbC B0 [] J) (hJx : AbC B0 [] Jx) (hY : YieldsC Try.prog ly encK (l.filter f).length J Jx) (hJ0 : J [] C W) :
    Calls Try.prog 104 #[.func (.yield ly) #[] #[], .pointer (some ⟨B1, 0, none⟩), .pointer (some ⟨B2, 0, none⟩)] W fun e W' => (∃ v, e = .returned v) ∧ ∃ C', (∀ q ∈ C', q < W'.heap.size) ∧ ((J (l.filter f) C' W') ∨ (∃ pre, pre <+: l.filter f ∧ Jx pre C' W')) := by
  have HK := Hidden.mk (sift_keys hs hl)
  have hB2 : B2 < W.heap.size := by simpa using World.block_lt_of_cell? W _ b2
  have HH := Hidden.mk (And.intro h0 (And.intro hab (And.intro hst (And.intro hD (And.intro hC (And.intro hJ (And.intro hJx (And.intro hJ0 hB0))))))))
  have HY := Hidden.mk hY
  clear hs h0 hab hst hD hC hJ hJx hY hJ0
  refine (callsIn_wide (n := 4)).1 ?_
  refine callsIn_of_wp Try.func104 rfl trivial ?_ rfl
  simp only [Try.ntmps104, List.size_toArray, List.length_cons, List.length_nil, Nat.reduceAdd, Nat.reduceSub, Array.replicate_succ, Array.replicate_zero, List.push_toArray, List.append_toArray, List.nil_append, List.cons_append]
  gi_wp2_with fail
  refine ⟨trivial, ?_⟩
  refine (callsIn_wide.2 HK.out).mono ?_
  rintro e w1 ⟨v, rfl, hv, hm, hge⟩
  obtain ⟨pa, cap, rfl, -⟩ := hv.slice_
  have H1 := Hidden.mk (And.intro hv (And.intro hm hge))
  clear hv hm hge HK b1
  gi_wp2_with fail
  obtain ⟨row, hrow⟩ : ∃ row, rbl (.slice pa l.length cap) l = row := ⟨_, rfl⟩
  have HR : Hidden ((∀ q ∈ row, W.heap.size ≤ q ∧ q < w1.heap.size)) := ⟨fun q hq => by
    rw [← hrow] at hq
    refine ⟨?_, rbl_lt H1.out.1 q hq⟩
    unfold rbl at hq
    split at hq
    · simp at hq
    · exact H1.out.2.2 q hq⟩
  gi_loopw [9] (fun iv wr => ∃ (i : Nat) (C2 : List Nat), i ≤ l.length ∧ iv = .int .i64 i ∧ ISl .u64 wr (.slice pa l.length cap) l ∧ wr.cell? ⟨B2, 0, none⟩ = some (.func (.func fi) #[] lbi) ∧ Inv i wr ∧ (∀ q ∈ C2, q < wr.heap.size ∧ q ≠ B2 ∧ q ∉ D ∧ q ∉ row) ∧ J ((l.take i).filter f) C2 wr ∧ w1.heap.size ≤ wr.heap.size) (fun iv _ => l.length - (intOf iv).toNat)
  case atStart =>
    refine ⟨0, C, by omega, rfl, H1.out.1, (World.cell?_of_block (H1.out.2.1.block B2 hB2 (by simp))).trans b2, HH.out.2.1 _ _ _ _ HH.out.1 H1.out.2.1 (by simp), fun q hq => ?_, ?_, Nat.le_refl _⟩
    · have h1 := HH.out.2.2.2.2.1 q hq
      exact ⟨Nat.lt_of_lt_of_le h1.1 H1.out.2.1.size, h1.2, fun hD => (HH.out.2.2.2.1 q hD).2.2.1 hq, fun hr => by have := (HR.out q hr).1; omega⟩
    · simpa using HH.out.2.2.2.2.2.1 _ _ _ _ [] HH.out.2.2.2.2.2.2.2.1 H1.out.2.1 (by simp)
  case round =>
    clear b2
    obtain ⟨i, C2, hi, rfl, hI, hc2, hInv, hC2, hJ2, hsz⟩ := hrel
    by_cases hin : i < l.length
    · obtain ⟨g, off, x, rfl, hg, hx, hc⟩ := hI.get hin
      have hd : decide ((i : Int) < (l.length : Int)) = true := decide_eq_true (by omega)
      have hw1 : IntKind.i64.wrap ((i : Int) + 1) = i + 1 := IntWalk.i64_in _ (by omega)
      have HQ := Hidden.mk (HH.out.2.2.1 i x wr hx hInv)
      have htk : (l.take (i + 1)).filter f = (l.take i).filter f ++ (if f x then [x] else []) := by rw [List.take_add_one, hx, List.filter_append]; simp [List.filter_cons]
      have HT := Hidden.mk htk
      have HE := Hidden.mk (And.intro hI (And.intro hC2 (And.intro hJ2 hsz)))
      have HC2 := Hidden.mk hc2
      clear hI hC2 hJ2 hsz hInv htk hx
      gi_wp2_with fail
      refine ⟨trivial, ?_⟩
      refine (callsIn_wide.2 HQ.out).mono ?_
      rintro e w2 ⟨rfl, hI2, hm2⟩
      have hDr : ∀ q ∈ row, q ∉ D := fun q hq hD => by have := (HR.out q hq).1; have := (HH.out.2.2.2.1 q hD).2.1; omega
      have hrow2 := HE.out.1.modl hm2 (fun b hb hD => hDr b (by rw [← hrow]; exact hb) hD)
      have hb2 : w2.cell? ⟨B2, 0, none⟩ = some (.func (.func fi) #[] lbi) := (World.cell?_of_block (hm2.block B2 (by have := HE.out.2.2.2; have := H1.out.2.1.size; omega) (fun hD => (HH.out.2.2.2.1 B2 hD).2.2.2 rfl))).trans HC2.out
      have hJ3 := HH.out.2.2.2.2.2.1 _ _ _ _ D HE.out.2.2.1 hm2 (fun q hq => ⟨.inl (HH.out.2.2.2.1 q hq).1, fun hc => (HE.out.2.1 q hc).2.2.1 hq⟩)
      have hC3 : ∀ q ∈ C2, q < w2.heap.size ∧ q ≠ B2 ∧ q ∉ D ∧ q ∉ row := fun q hq => ⟨Nat.lt_of_lt_of_le (HE.out.2.1 q hq).1 hm2.size, (HE.out.2.1 q hq).2⟩
      have hs3 : w1.heap.size ≤ w2.heap.size := Nat.le_trans HE.out.2.2.2 hm2.size
      by_cases hf : f x = true
      · have hlen : ((l.take i).filter f).length < (l.filter f).length := by
          have h9 : ((l.take (i + 1)).filter f).length ≤ (l.filter f).length := ((List.take_sublist (i + 1) l).filter f).length_le
          rw [HT.out, if_pos hf] at h9
          simp at h9; omega
        obtain ⟨fn, tmps, assign, body, hy, hRd⟩ := HY.out _ x C2 w2 hJ3 hlen (fun q hq => (hC3 q hq).1)
        rw [show (l.take i).filter f ++ [x] = (l.take (i + 1)).filter f from by rw [HT.out, if_pos hf]] at hRd
        have HG := Hidden.mk (And.intro hI2 (And.intro hrow2 (And.intro hb2 (And.intro hC3 hs3))))
        rw [hf]
        clear hI2 hrow2 hJ3 hC3 hs3 hm2 hlen hf hc hc2 HE HC2 HT HQ
        gi_wp2_with fail
        refine hRd.mono ?_
        clear hRd hy
        rintro e w3 ⟨C3, hk3, hn3, ⟨rfl, hJ4⟩ | ⟨rfl, hJ4⟩⟩
        · have hg1 := HH.out.2.1 _ _ _ _ HG.out.1 hk3 (fun q hq => (HG.out.2.2.2.1 q hq).2.2.1)
          have hg2 := HG.out.2.1.modl hk3 (fun b hb hc => (HG.out.2.2.2.1 b hc).2.2.2 (by rw [← hrow]; exact hb))
          have hg3 : w3.cell? ⟨B2, 0, none⟩ = some (.func (.func fi) #[] lbi) := (World.cell?_of_block (hk3.block B2 (by have := HG.out.2.2.2.2; have := H1.out.2.1.size; omega) (fun hc => (HG.out.2.2.2.1 B2 hc).2.1 rfl))).trans HG.out.2.2.1
          have hg4 : ∀ q ∈ C3, q < w3.heap.size ∧ q ≠ B2 ∧ q ∉ D ∧ q ∉ row := fun q hq => by
            refine ⟨(hn3 q hq).2, ?_⟩
            rcases (hn3 q hq).1 with h9 | h9
            · exact (HG.out.2.2.2.1 q h9).2
            · have hz := HG.out.2.2.2.2
              have hz1 := H1.out.2.1.size
              exact ⟨by omega, fun hD => by have := (HH.out.2.2.2.1 q hD).2.1; omega, fun hr => by have := (HR.out q hr).2; omega⟩
          have H4 := Hidden.mk (And.intro hg1 (And.intro hg2 (And.intro hg3 (And.intro hg4 (And.intro hJ4 (Nat.le_trans HG.out.2.2.2.2 hk3.size))))))
          clear hg1 hg2 hg3 hg4 hJ4 hk3 hn3
          gi_wp2_with fail
          go_roundw
          case rel => exact ⟨i + 1, C3, by omega, by go_num, H4.out.2.1, H4.out.2.2.1, H4.out.1, H4.out.2.2.2.1, H4.out.2.2.2.2.1, H4.out.2.2.2.2.2⟩
          case measure => simp [intOf]; omega
        · have HX := Hidden.mk (And.intro hJ4 hn3)
          clear hJ4 hn3 hk3
          gi_wp2_with fail
          refine bodyPost_ret (results_none rfl _ _ _) rfl ?_
          exact ⟨⟨_, rfl⟩, C3, fun q hq => (HX.out.2 q hq).2, .inr ⟨_, (List.take_prefix _ _).filter f, HX.out.1⟩⟩
      · have hf2 : f x = false := by simpa using hf
        have HG := Hidden.mk (And.intro hI2 (And.intro hrow2 (And.intro hb2 (And.intro hC3 (And.intro hJ3 hs3)))))
        have HTT := Hidden.mk (by rw [HT.out, if_neg hf, List.append_nil] : (l.take (i + 1)).filter f = (l.take i).filter f)
        rw [hf2]
        clear hI2 hrow2 hb2 hJ3 hC3 hs3 hm2 hf hf2 hc hc2 HE HC2 HT HQ
        gi_wp2_with fail
        refine ⟨fun _ h => (by cases h), ?_⟩
        gi_wp2_with fail
        go_roundw
        case rel => exact ⟨i + 1, C2, by omega, by go_num, HG.out.2.1, HG.out.2.2.1, HG.out.1, HG.out.2.2.2.1, by rw [HTT.out]; exact HG.out.2.2.2.2.1, HG.out.2.2.2.2.2⟩
        case measure => simp [intOf]; omega
    · obtain rfl : i = l.length := by omega
      have hd : decide ((l.length : Int) < (l.length : Int)) = false := decide_eq_false (by omega)
      have HE := Hidden.mk (And.intro hC2 hJ2)
      clear hI hC2 hJ2 hsz hInv hc2
      gi_wp2_with fail
      go_end0
      exact ⟨⟨_, rfl⟩, C2, fun q hq => (HE.out.1 q hq).1, .inl (by have := HE.out.2; rwa [List.take_length] at this)⟩
end Go.Proofs.Ytfioekkegihkoaa
