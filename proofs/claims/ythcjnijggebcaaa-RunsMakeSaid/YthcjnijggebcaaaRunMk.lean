/- The law RunsMake: its walk. -/
import Derived.Test.YthcjnijggebcaaaRuns14
import Derived.Test.YthcjnijggebcaaaFew06
import Derived.Test.YthcjnijggebcaaaArgs2
namespace Go.Proofs.Ythcjnijggebcaaa
open Go.RowKit
set_option linter.unusedVariables false
set_option linter.unusedSimpArgs false
/-- The runs that an argument holds. -/
def rawL (z : Nat → Nat → Int) (n : Nat) : List (Int × Int) := (List.range n).map (fun i => (z i 0, z i 1))
theorem rawL_len (z : Nat → Nat → Int) (n : Nat) : (rawL z n).length = n := by simp [rawL]
theorem rawL_get {z : Nat → Nat → Int} {n i : Nat} {p : Int × Int} (h : (rawL z n)[i]? = some p) : i < n ∧ p = (z i 0, z i 1) := by
  unfold rawL at h
  rw [List.getElem?_map] at h
  cases hr : (List.range n)[i]? with
  | none => rw [hr] at h; cases h
  | some j =>
    rw [hr] at h
    obtain ⟨h1, h2⟩ := List.getElem?_eq_some_iff.1 hr
    simp at h1 h2 h
    subst h2
    exact ⟨h1, h.symm⟩
theorem rawL_rsl {w : World} {a : Option Addr} {len cap : Nat} {z : Nat → Nat → Int} (h : StRow [.u16, .u16] w a len cap z) : RSl w (.slice a len cap) (rawL z len) ∧ R16 (rawL z len) := by
  have hle := h.le
  rcases Nat.eq_zero_or_pos len with h0 | h0
  · subst h0
    have ha : a = none → cap = 0 := by
      rcases h with ⟨_, _, h2⟩ | ⟨x, rfl, _⟩
      · exact fun _ => h2
      · exact fun hn => by cases hn
    exact ⟨⟨a, cap, rfl, hle.1, hle.2, ha, .inl rfl⟩, fun p hp => by simp [rawL] at hp⟩
  · obtain ⟨b, off, rfl, hb, hc⟩ := h.at_ h0 (by decide)
    constructor
    · refine ⟨some ⟨b, off, none⟩, cap, by rw [rawL_len], by rw [rawL_len]; exact hle.1, hle.2, (fun hn => by cases hn), .inr ⟨b, off, rfl, fun i p hp => ?_⟩⟩
      obtain ⟨hi, rfl⟩ := rawL_get hp
      exact ⟨(hc i hi 0 .u16 rfl).1, (hc i hi 1 .u16 rfl).1⟩
    · intro p hp
      obtain ⟨i, hi⟩ := List.getElem?_of_mem hp
      obtain ⟨h1, rfl⟩ := rawL_get hi
      have h2 := wf_u16 (hc i h1 0 .u16 rfl).2
      have h3 := wf_u16 (hc i h1 1 .u16 rfl).2
      simp only; omega
theorem RSl.take {w : World} {a : Option Addr} {n cap : Nat} {l : List (Int × Int)} (h : RSl w (.slice a n cap) l) {i : Nat} (hi : i ≤ n) : RSl w (.slice a i cap) (l.take i) := by
  obtain ⟨a', cap', he, h1, h2, h3, h4⟩ := h
  injection he with e1 e2 e3; subst e1 e2 e3
  have hl : (l.take i).length = i := by rw [List.length_take]; omega
  refine ⟨a, cap, by rw [hl], by omega, h2, h3, ?_⟩
  rcases h4 with rfl | ⟨b, off, rfl, h5⟩
  · exact .inl (by simp)
  · exact .inr ⟨b, off, rfl, fun j x hx => h5 j x (by
      have : j < i := by have := (List.getElem?_eq_some_iff.1 hx).1; omega
      rwa [List.getElem?_take_of_lt this] at hx)⟩
theorem rcells_put : ∀ (l : List (Int × Int)) (i : Nat) (p q u : Int), l[i]? = some (p, q) → (rcells l).set (i * 2 + 1) (.int .u16 u) = rcells (l.set i (p, u))
  | [], i, p, q, u, h => by simp at h
  | r :: l, 0, p, q, u, h => by simp at h; subst h; rfl
  | r :: l, i + 1, p, q, u, h => by
    have ih := rcells_put l i p q u (by simpa using h)
    rw [show (i + 1) * 2 + 1 = (i * 2 + 1) + 1 + 1 from by omega, show rcells (r :: l) = .int .u16 r.1 :: .int .u16 r.2 :: rcells l from rfl, List.set_cons_succ, List.set_cons_succ, ih, List.set_cons_succ]
    rfl
theorem okAll_step {l : List (Int × Int)} {i : Nat} : (∀ j, j < i + 1 → okAt l j) ↔ (∀ j, j < i → okAt l j) ∧ okAt l i := by
  constructor
  · intro h; exact ⟨fun j hj => h j (by omega), h i (by omega)⟩
  · rintro ⟨h1, h2⟩ j hj
    rcases Nat.lt_or_ge j i with h | h
    · exact h1 j h
    · have : j = i := by omega
      subst this; exact h2
theorem take_len_of {L : List Int} {n : Nat} (h : L.length ≤ n) : L.take n = L := List.take_of_length_le h
theorem srt_rofN {L : List Int} (h : ∀ x ∈ L, 0 ≤ x ∧ x < 65536) : RF (rofN (srt L)) (fun i => decide ((i : Int) ∈ L)) := by
  obtain ⟨h1, h2, _, _⟩ := rofN_ok _ (srt L) rfl (srt_rises L)
  refine ⟨h1, r16_of (rofN_bnd (P := fun x => 0 ≤ x ∧ x < 65536) _ _ rfl (fun x hx => h x (srt_mem.1 hx))), fun i hi => ?_⟩
  rw [decide_eq_true_iff, h2, srt_mem]
/-- What a loop that spoils a row leaves of it. -/
structure Spoil (w0 w : World) (v : Value) (n : Nat) : Prop where
  row : ∃ l : List (Int × Int), l.length = n ∧ Row w 34 2 v n (rcells l)
  mod : Mod (rb v) w0 w
theorem Spoil.at_ {w0 w : World} {a : Option Addr} {n c i : Nat} (h : Spoil w0 w (.slice a n c) n) (hi : i < n) : ∃ g q, a = some ⟨g, 0, none⟩ ∧ g < w.heap.size ∧ w.cell? ⟨g, i * 2 + 1, none⟩ = some (.int .u16 q) ∧ w.frozen? ⟨g, i * 2 + 1, none⟩ = false ∧
    Spoil w0 (w.setCell ⟨g, i * 2 + 1, none⟩ (.int .u16 0)) (.slice a n c) n := by
  obtain ⟨⟨l, hl, hr⟩, hm⟩ := h
  obtain ⟨g, cap, he, hrb, _, _, hg, hc, hf⟩ := hr.at_ (by omega)
  injection he with e1 e2 e3
  subst e1 e3
  have hx : l[i]? = some l[i] := List.getElem?_eq_getElem (by omega)
  have h1 := hc (i * 2 + 1) (by omega)
  rw [(rcells_get hx).2] at h1
  have h2 := hr.stored (i * 2 + 1) (.int .u16 0)
  rw [rcells_put l i l[i].1 l[i].2 0 hx] at h2
  exact ⟨g, _, rfl, hg, h1, hf _, ⟨_, by rw [List.length_set]; exact hl, h2⟩, hm.set (p := ⟨g, i * 2 + 1, none⟩) (.inl (by rw [hrb]; simp)) _⟩
set_option maxHeartbeats 4000000 in
set_option maxRecDepth 100000 in
theorem runsMake_walk (a0 : Option Addr) (len0 cap0 : Nat) (z0 : List Int) (a1 : Option Addr) (len1 cap1 : Nat) (z1 : Nat → Nat → Int) (a2 a3 : Int) (w : World) (w0 : IntRow .u16 w a0 len0 cap0 z0) (y0 : len0 * 2 ≤ 140737488351232) (w1 : StRow [.u16, .u16] w a1 len1 cap1 z1) (w2 : (Lit.int .u16 a2).wf = true) (w3 : (Lit.int .u16 a3).wf = true) :
    Calls Try.prog 3 #[.slice a0 len0 cap0, .slice a1 len1 cap1, .int .u16 a2, .int .u16 a3] w fun e w' => e = .returned (.bool true) ∧ Below w.heap.size w w' := by
  obtain ⟨hsl, hlen⟩ := w0.isl
  have hb0 := w0.bnds
  have HSL := Hidden.mk (And.intro hsl hlen)
  have HB : Hidden (∀ x ∈ (z0.take len0).take 300, 0 ≤ x ∧ x < 65536) := ⟨fun x hx => wf_u16 (hb0 x (List.mem_of_mem_take (List.mem_of_mem_take hx)))⟩
  have HLN : Hidden (((z0.take len0).take 300).length ≤ 300) := ⟨by simp; omega⟩
  have HFT := Hidden.mk (And.intro (wf_u16 w2) (wf_u16 w3))
  obtain ⟨m, hm⟩ : ∃ m, m = min len1 20 := ⟨_, rfl⟩
  have hm1 : min (len1 : Int) 20 = m := by omega
  have hm20 : m ≤ 20 := by omega
  have hml : m ≤ len1 := by omega
  have hc1 := w1.le.1
  have hc2 := w1.le.2
  have HRW : Hidden (RSl w (.slice a1 m cap1) ((rawL z1 len1).take m) ∧ R16 ((rawL z1 len1).take m) ∧ ((rawL z1 len1).take m).length = m) := ⟨(rawL_rsl w1).1.take hml, fun p hp => (rawL_rsl w1).2 p (List.mem_of_mem_take hp), by rw [List.length_take, rawL_len]; omega⟩
  have e1 : (z0.take len0).length = len0 := hlen
  clear hsl hlen hb0 w0 w1 w2 w3 hm
  generalize (rawL z1 len1).take m = R at *
  go_enter Try.func3, Try.ntmps3
  go_wp2_with fail
  refine (awake08 _).mono ?_
  rintro e w1 ⟨rfl, hm1'⟩
  have H1 := few06_call 300 (by decide) _ _ w1 (HSL.out.1.news hm1')
  rw [HSL.out.2] at H1
  have HF := Hidden.mk H1
  have HM1 := Hidden.mk hm1'
  clear hm1' H1
  go_wp2_with fail
  refine HF.out.mono ?_
  rintro e w2 ⟨v2, rfl, hW2⟩
  have HM2 := Hidden.mk (HM1.out.trans hW2.mod (by simp))
  have hi2 := hW2.isl.2
  generalize (z0.take len0).take 300 = L at *
  obtain ⟨a2', c2, rfl, -⟩ := hi2.slice_
  have HI2 := Hidden.mk hi2
  have HF2 := Hidden.mk (few06_call 300 (by decide) L _ w2 hi2)
  clear hW2 hi2 HF HM1 HSL e1
  go_wp2_with fail
  refine HF2.out.mono ?_
  rintro e w3 ⟨v3, rfl, hW3⟩
  rw [take_len_of HLN.out] at hW3
  have HM3 := Hidden.mk (HM2.out.trans hW3.mod (by simp))
  have HI3 := Hidden.mk (HI2.out.news hW3.mod)
  have hi3 := hW3.isl.2
  obtain ⟨a3', c3, rfl, -⟩ := hi3.slice_
  have HJ3 := Hidden.mk hi3
  have HK3 := Hidden.mk (of_runs hi3 HB.out (Nat.le_trans HLN.out (by decide)))
  clear hW3 hi3 HF2 HM2 HI2
  go_wp2_with fail
  refine HK3.out.mono ?_
  rintro e w4 ⟨v4, rfl, hW4⟩
  have HM4 := Hidden.mk (HM3.out.trans hW4.mod (by simp))
  have HI4 := Hidden.mk (HI3.out.news hW4.mod)
  have HJ4 := Hidden.mk (HJ3.out.news hW4.mod)
  have HS4 := Hidden.mk (And.intro hW4.rsl (fun b hb => hW4.row.lt (k := b) hb))
  have HK4 := Hidden.mk (of06 HI4.out (Nat.le_trans HLN.out (by decide)) HB.out)
  obtain ⟨a4, c4, rfl, -⟩ := hW4.slice_
  clear hW4 HK3 HM3 HI3 HJ3
  go_wp2_with fail
  refine HK4.out.mono ?_
  rintro e w5 ⟨v5, rfl, hs5, hm5, hn5⟩
  have HM5 := Hidden.mk (HM4.out.trans hm5 (by simp))
  have HI5 := Hidden.mk (HI4.out.news hm5)
  have HJ5 := Hidden.mk (HJ4.out.news hm5)
  have HL5 : Hidden (LawSt w5 _ v5 _) := ⟨_, HS4.out.1.news hm5, srt_rofN HB.out, hs5, fun b hb hb2 => by have h1 := hn5 b hb2; have h2 := HS4.out.2 b hb; omega⟩
  have HK5 := Hidden.mk (same08 HL5.out)
  obtain ⟨sb5, rfl, -⟩ := hs5.at_
  clear hs5 hm5 hn5 HK4 HM4 HI4 HJ4 HS4 HL5
  go_wp2_with fail
  refine HK5.out.mono ?_
  rintro e w6 ⟨rfl, hm6⟩
  have HM6 := Hidden.mk (HM5.out.trans hm6 (by simp))
  have HI6 := Hidden.mk (HI5.out.news hm6)
  have HK6 := Hidden.mk (same06 (HJ5.out.news hm6) HI6.out (Nat.le_trans HLN.out (by decide)) (Nat.le_trans HLN.out (by decide)))
  clear hm6 HK5 HM5 HI5 HJ5
  go_wp2_with fail
  refine HK6.out.mono ?_
  rintro e w7 ⟨rfl, q7, rfl⟩
  rw [show decide True = true from rfl]
  have HM7 := Hidden.mk (HM6.out.drewN q7)
  have HI7 := Hidden.mk (HI6.out.drewN q7)
  clear HK6 HM6 HI6
  go_wp2_with fail
  go_loopw [10, 11, 12, 44] (fun vr _ _ vi wr => ∃ (i : Nat) (g : Bool), i ≤ m ∧ vi = .int .i64 i ∧ vr = .bool g ∧ (g = true ↔ ∀ j, j < i → okAt R j) ∧ Mod [] (w6.drewN q7) wr) (fun _ _ _ vi _ => m - (intOf vi).toNat)
  case atStart => exact ⟨0, true, by omega, rfl, rfl, by simp, Mod.refl [] _⟩
  case round =>
    obtain ⟨i, g, hi, rfl, rfl, hg, hm⟩ := hrel
    have HG := Hidden.mk hg
    clear hg
    by_cases hin : i < m
    · obtain ⟨b, off, p, q, rfl, hbl, hx, hc1', hc2'⟩ := (HRW.out.1.news (HM7.out.trans hm (by simp))).get hin
      have hb := HRW.out.2.1 (p, q) (List.mem_of_getElem? hx)
      obtain ⟨hp0, hp1, hq0, hq1⟩ : 0 ≤ p ∧ p < 65536 ∧ 0 ≤ q ∧ q < 65536 := hb
      have HX := Hidden.mk hx
      have HM := Hidden.mk (hm.alloc (.cells #[.int .u16 p, .int .u16 q] 34))
      have HGET := Hidden.mk (fun (hi0 : 0 < i) => (HRW.out.1.news (HM7.out.trans hm (by simp))).get (i := i - 1) (by omega))
      clear hx hm
      have HOK : Hidden (∀ r : Bool, (r = true ↔ okAt R i) → ((g && r) = true ↔ ∀ j, j < i + 1 → okAt R j)) := ⟨fun r hr => by rw [okAll_step, ← HG.out, ← hr, Bool.and_eq_true]⟩
      cases g with
      | false =>
        go_wp2_with fail
        go_quiet (fail)
        go_wp2_with fail
        go_roundw
        case rel => exact ⟨i + 1, false, by omega, by go_num, rfl, ⟨fun h => (by cases h), fun h => by have h2 := (okAll_step.1 h).1; have := HG.out.2 h2; cases this⟩, HM.out.drewN _⟩
        case measure => simp [intOf]; omega
      | true =>
        by_cases hpq : p ≤ q
        · have hpqd : decide (p ≤ q) = true := decide_eq_true hpq
          rcases Nat.eq_zero_or_pos i with h0 | h0
          · subst h0
            have HR1 : Hidden (okAt R 0) := ⟨fun p' q' h' => by
              rw [HX.out] at h'; injection h' with h'; injection h' with h1 h2; subst h1 h2
              exact ⟨hpq, fun h => by omega⟩⟩
            rw [Nat.zero_mul, Nat.add_zero] at hc1' hc2'
            go_wp2_with fail
            go_quiet (fail)
            go_wp2_with fail
            go_roundw
            case rel => exact ⟨1, true, by omega, by go_num, rfl, by have := HOK.out true ⟨fun _ => HR1.out, fun _ => rfl⟩; simpa using this, HM.out.drewN _⟩
            case measure => simp [intOf]; omega
          · obtain ⟨b2, off2, p2, q2, he, _, hx2, hd1, hd2⟩ := HGET.out h0
            injection he with he
            injection he with e1 e2
            subst e1 e2
            have hb2 := HRW.out.2.1 (p2, q2) (List.mem_of_getElem? hx2)
            obtain ⟨hr0, hr1, hs0, hs1⟩ : 0 ≤ p2 ∧ p2 < 65536 ∧ 0 ≤ q2 ∧ q2 < 65536 := hb2
            have HX2 := Hidden.mk hx2
            obtain ⟨k, rfl⟩ : ∃ k, i = k + 1 := ⟨i - 1, by omega⟩
            rw [Nat.add_sub_cancel] at hd1 hd2 HX2
            have hiz : ((k : Int) + 1 == 0) = false := beq_eq_false_iff_ne.2 (by omega)
            have hw1 : IntKind.i64.wrap p = p := IntWalk.i64_in _ (by omega)
            have hw2 : IntKind.i64.wrap q2 = q2 := IntWalk.i64_in _ (by omega)
            have hw3 : IntKind.i64.wrap (q2 + 2) = q2 + 2 := IntWalk.i64_in _ (by omega)
            have hw4 : IntKind.i64.wrap (k : Int) = k := IntWalk.i64_in _ (by omega)
            have hk0 : (0 : Int) ≤ (k : Int) := by omega
            have hk1 : (k : Int) < (m : Int) := by omega
            have hk2 : k < m := by omega
            clear hx2 hd1 h0
            by_cases hgap : q2 + 2 ≤ p
            · have hgd : decide (q2 + 2 ≤ p) = true := decide_eq_true hgap
              have HR1 : Hidden (okAt R (k + 1)) := ⟨fun p' q' h' => by
                rw [HX.out] at h'; injection h' with h'; injection h' with h1 h2; subst h1 h2
                refine ⟨hpq, fun _ p4 q4 h4 => ?_⟩
                rw [Nat.add_sub_cancel, HX2.out] at h4; injection h4 with h4; injection h4 with h4 h5; subst h4 h5
                exact hgap⟩
              clear hgap hpq
              go_wp2_with fail
              go_quiet (fail)
              go_wp2_with fail
              go_roundw
              case rel => exact ⟨k + 1 + 1, true, by omega, by go_num, rfl, by have := HOK.out true ⟨fun _ => HR1.out, fun _ => rfl⟩; simpa using this, HM.out.drewN _⟩
              case measure => simp [intOf]; omega
            · have hgd : decide (q2 + 2 ≤ p) = false := decide_eq_false hgap
              have HR1 : Hidden (¬ okAt R (k + 1)) := ⟨fun h => by
                have := (h p q HX.out).2 (by omega) p2 q2 (by rw [Nat.add_sub_cancel]; exact HX2.out)
                omega⟩
              clear hgap hpq
              go_wp2_with fail
              go_quiet (fail)
              go_wp2_with fail
              go_roundw
              case rel => exact ⟨k + 1 + 1, false, by omega, by go_num, rfl, by have := HOK.out false ⟨fun h => (by cases h), fun h => absurd h HR1.out⟩; simpa using this, HM.out.drewN _⟩
              case measure => simp [intOf]; omega
        · have hpqd : decide (p ≤ q) = false := decide_eq_false hpq
          have HR1 : Hidden (¬ okAt R i) := ⟨fun h => hpq (h p q HX.out).1⟩
          clear hpq
          go_wp2_with fail
          go_quiet (fail)
          go_wp2_with fail
          go_roundw
          case rel => exact ⟨i + 1, false, by omega, by go_num, rfl, by have := HOK.out false ⟨fun h => (by cases h), fun h => absurd h HR1.out⟩; simpa using this, HM.out.drewN _⟩
          case measure => simp [intOf]; omega
    · have e : i = m := by omega
      subst e
      have HM8 := Hidden.mk (HM7.out.trans hm (by simp))
      have HI8 := Hidden.mk (HI7.out.news hm)
      have HK8 := Hidden.mk (of_runs HI8.out HB.out (Nat.le_trans HLN.out (by decide)))
      clear hm hin
      go_wp2_with fail
      refine HK8.out.mono ?_
      rintro e w9 ⟨v9, rfl, hW9⟩
      have HRF := Hidden.mk (srt_rofN HB.out)
      generalize rofN (srt L) = la at *
      have HM9 := Hidden.mk (HM8.out.trans hW9.mod (by simp))
      have HA9 := Hidden.mk (And.intro hW9.rsl (fun b hb => hW9.row.lt (k := b) hb))
      have hsh := HRF.out.short
      have HK9 := Hidden.mk (list_runs hW9.rsl HRF.out.b16 (by omega))
      obtain ⟨a9, c9, rfl, -⟩ := hW9.slice_
      clear hW9 HK8 HM8 HI8
      go_wp2_with fail
      refine HK9.out.mono ?_
      rintro e w10 ⟨v10, rfl, hW10⟩
      have HM10 := Hidden.mk (HM9.out.trans hW10.mod (by simp))
      have HZ10 := Hidden.mk HM10.out.size
      have HA10 := Hidden.mk (And.intro (HA9.out.1.news hW10.mod) (fun b hb => Nat.lt_of_lt_of_le (HA9.out.2 b hb) hW10.mod.size))
      have HQ10 := Hidden.mk (And.intro hW10.isl.2 (fun b hb => hW10.row.lt (k := b) hb))
      have HK10 := Hidden.mk (fill_runs a2 a3 HFT.out.1 HFT.out.2 HA10.out.1 HRF.out.b16 (by omega))
      have HRL := Hidden.mk (show (rlist la).length ≤ 65536 from by rw [HRF.out.list, lst_length]; exact cntN_le Most)
      obtain ⟨a10, c10, rfl, -⟩ := hW10.isl.2.slice_
      clear hW10 HK9 HM9 HA9
      go_wp2_with fail
      refine HK10.out.mono ?_
      rintro e w11 ⟨v11, rfl, hW11⟩
      have HM11 := Hidden.mk (HM10.out.trans hW11.mod (by simp))
      have HA11 := Hidden.mk (And.intro (HA10.out.1.news hW11.mod) (fun b hb => HA10.out.2 b hb))
      have HQ11 := Hidden.mk (And.intro (HQ10.out.1.news hW11.mod) (fun b hb => HQ10.out.2 b hb))
      have HK11 := Hidden.mk (wipe_runs a2 a3 HFT.out.1 HFT.out.2 HA11.out.1 HRF.out.b16 (by omega))
      generalize rfill a2 a3 la = lb at *
      obtain ⟨a11, c11, rfl, hlb1, hlb2⟩ := hW11.slice_
      have HW11 := Hidden.mk hW11
      clear hW11 HK10 HM10 HA10 HQ10
      go_wp2_with fail
      refine HK11.out.mono ?_
      rintro e w12 ⟨v12, rfl, hW12⟩
      have HM12 := Hidden.mk (HM11.out.trans hW12.mod (by simp))
      have HA12 := Hidden.mk (And.intro (HA11.out.1.news hW12.mod) HA11.out.2)
      have HQ12 := Hidden.mk (And.intro (HQ11.out.1.news hW12.mod) HQ11.out.2)
      generalize rwipe a2 a3 la = lc at *
      obtain ⟨a12, c12, rfl, hlc1, hlc2⟩ := hW12.slice_
      have HB12 : Hidden (Spoil w12 w12 (.slice a11 lb.length c11) lb.length) := ⟨⟨lb, rfl, HW11.out.row.mod hW12.mod (by simp)⟩, Mod.refl _ _⟩
      have HDB : Hidden ((∀ b ∈ rb (.slice a11 lb.length c11), w10.heap.size ≤ b) ∧ (∀ b ∈ rb (.slice a12 lc.length c12), w10.heap.size ≤ b) ∧ w.heap.size ≤ w10.heap.size) := ⟨HW11.out.ge, fun b hb => Nat.le_trans HW11.out.mod.size (hW12.ge b hb), HZ10.out⟩
      have HC12 : Hidden (∀ W, Mod (rb (.slice a11 lb.length c11)) w12 W → Spoil W W (.slice a12 lc.length c12) lc.length) := ⟨fun W hW => ⟨⟨lc, rfl, hW12.row.mod hW (fun k hk hk2 => by have h1 := hW12.ge k hk; have h2 := HW11.out.row.lt hk2; omega)⟩, Mod.refl _ _⟩⟩
      clear hW12 HK11 HM11 HA11 HQ11
      go_wp2_with fail
      go_loopw [17, 90] (fun _ vi wx => ∃ i : Nat, i ≤ lb.length ∧ vi = .int .i64 i ∧ Spoil w12 wx (.slice a11 lb.length c11) lb.length) (fun _ vi _ => lb.length - (intOf vi).toNat)
      case atStart => exact ⟨0, by omega, rfl, HB12.out⟩
      case round =>
        obtain ⟨i, hi, rfl, hS⟩ := hrel
        by_cases hin : i < lb.length
        · obtain ⟨g2, q2, rfl, hgl, hcell, hfro, hS2⟩ := hS.at_ hin
          have HS2 := Hidden.mk hS2
          clear hS hS2
          go_wp2_with fail
          go_roundw
          case rel => exact ⟨i + 1, by omega, by go_num, HS2.out⟩
          case measure => simp [intOf]; omega
        · have e : i = lb.length := by omega
          subst e
          have HC := Hidden.mk (HC12.out _ hS.mod)
          have HSM := Hidden.mk hS.mod
          obtain ⟨wb, hwb⟩ : ∃ x : World, x = wr := ⟨_, rfl⟩
          subst hwb
          clear hS hin
          go_wp2_with fail
          go_loopw [18, 100] (fun _ vi wx => ∃ i : Nat, i ≤ lc.length ∧ vi = .int .i64 i ∧ Spoil wb wx (.slice a12 lc.length c12) lc.length) (fun _ vi _ => lc.length - (intOf vi).toNat)
          case atStart => exact ⟨0, by omega, rfl, HC.out⟩
          case round =>
            obtain ⟨i, hi, rfl, hS⟩ := hrel
            by_cases hin : i < lc.length
            · obtain ⟨g2, q2, rfl, hgl, hcell, hfro, hS2⟩ := hS.at_ hin
              have HS2 := Hidden.mk hS2
              clear hS hS2
              go_wp2_with fail
              go_roundw
              case rel => exact ⟨i + 1, by omega, by go_num, HS2.out⟩
              case measure => simp [intOf]; omega
            · have e : i = lc.length := by omega
              subst e
              have HMZ := Hidden.mk ((HM12.out.trans HSM.out (fun x hx => .inr (Nat.le_trans HDB.out.2.2 (HDB.out.1 x hx)))).trans hS.mod (fun x hx => .inr (Nat.le_trans HDB.out.2.2 (HDB.out.2.1 x hx))))
              have HAZ := Hidden.mk ((HA12.out.1.mod HSM.out (fun b hb hb2 => by have h1 := HA12.out.2 b hb; have h2 := HDB.out.1 b hb2; omega)).mod hS.mod (fun b hb hb2 => by have h1 := HA12.out.2 b hb; have h2 := HDB.out.2.1 b hb2; omega))
              have HQZ := Hidden.mk ((HQ12.out.1.mod HSM.out (fun b hb hb2 => by have h1 := HQ12.out.2 b hb; have h2 := HDB.out.1 b hb2; omega)).mod hS.mod (fun b hb hb2 => by have h1 := HQ12.out.2 b hb; have h2 := HDB.out.2.1 b hb2; omega))
              have HK := Hidden.mk (is_runs (HRW.out.1.news HMZ.out) HRW.out.2.1 (by have := HRW.out.2.2; omega))
              have HGG : Hidden (∀ g' : Bool, (g' = true ↔ OkRuns R) → g' = g) := ⟨fun g' h => by
                rw [Bool.eq_iff_iff, h, HG.out]
                unfold OkRuns
                rw [HRW.out.2.2]⟩
              clear hS hin
              go_wp2_with fail
              refine HK.out.mono ?_
              rintro e w20 ⟨g', rfl, hg', hm20'⟩
              obtain rfl : g' = g := HGG.out g' hg'
              have HMY := Hidden.mk (HMZ.out.trans hm20' (by simp))
              have HAY := Hidden.mk (HAZ.out.news hm20')
              have HQY := Hidden.mk (HQZ.out.news hm20')
              have HKY := Hidden.mk (list_runs HAY.out HRF.out.b16 (by omega))
              have hbb : (g' == g') = true := by simp
              clear hg' hm20' HK HMZ HAZ HQZ HGG HG
              go_wp2_with fail
              refine HKY.out.mono ?_
              rintro e w21 ⟨v21, rfl, hW21⟩
              have HMX := Hidden.mk (HMY.out.trans hW21.mod (by simp))
              have HKX := Hidden.mk (same06 hW21.isl.2 (HQY.out.news hW21.mod) (Nat.le_trans HRL.out (by decide)) (Nat.le_trans HRL.out (by decide)))
              obtain ⟨a21, c21, rfl, -⟩ := hW21.isl.2.slice_
              clear hW21 HKY HMY HAY HQY
              go_wp2_with fail
              refine HKX.out.mono ?_
              rintro e w22 ⟨rfl, q22, rfl⟩
              rw [show decide True = true from rfl]
              have HMW := Hidden.mk (HMX.out.drewN q22)
              clear HKX HMX
              go_wp2_with fail
              go_ret
              exact ⟨rfl, HMW.out.below (Nat.le_refl _) (by simp)⟩
end Go.Proofs.Ythcjnijggebcaaa
