/- runs: where a number stands (BinarySearchFunc), Has, Next, Prev, Select. -/
import Derived.Test.YthcjnijggebcaaaRunsF
import Derived.Test.YthcjnijggebcaaaRuns6
namespace Go.Proofs.Ythcjnijggebcaaa
open Go.RowKit
set_option linter.unusedVariables false
set_option linter.unusedSimpArgs false
set_option maxHeartbeats 400000 in
theorem at1_runs {w : World} (p q t : Int) (hq : 0 ≤ q ∧ q < 65536) (ht : 0 ≤ t ∧ t < 65536) :
    Calls Try.prog 107 #[.agg #[.int .u16 p, .int .u16 q], .int .u16 t] w fun e w' => e = .returned (.int .i64 (q - t)) ∧ Mod [] w w' := by
  obtain ⟨hq0, hq1⟩ := hq
  obtain ⟨ht0, ht1⟩ := ht
  have e1 : IntKind.i64.wrap q = q := IntWalk.i64_in _ (by omega)
  have e2 : IntKind.i64.wrap t = t := IntWalk.i64_in _ (by omega)
  have e3 : IntKind.i64.wrap (q - t) = q - t := IntWalk.i64_in _ (by omega)
  go_enter Try.func107, Try.ntmps107
  go_wp2_with fail
  go_ret
  exact ⟨rfl, (Mod.refl [] w).alloc _⟩
/-- A place, as AtR tells. -/
def AtOnly (w : World) (l : List (Int × Int)) (t : Int) (e : Ending) (w' : World) : Prop := ∃ i : Nat, e = .returned (.int .i64 i) ∧ AtR l t i ∧ Mod [] w w'
def AtTwo (w : World) (l : List (Int × Int)) (t : Int) (e : Ending) (w' : World) : Prop := ∃ (i : Nat) (g : Bool), e = .returned (.tuple #[.int .i64 i, .bool g]) ∧ AtR l t i ∧ Mod [] w w'
theorem rn_up {l : List (Int × Int)} (hn : Rn l) {i j : Nat} {r s : Int × Int} (hij : i ≤ j) (hi : l[i]? = some r) (hj : l[j]? = some s) : r.2 ≤ s.2 := by
  obtain ⟨hi1, rfl⟩ := List.getElem?_eq_some_iff.1 hi
  obtain ⟨hj1, rfl⟩ := List.getElem?_eq_some_iff.1 hj
  rcases Nat.lt_or_ge i j with h | h
  · have h1 := List.pairwise_iff_getElem.1 hn.gap i j hi1 hj1 h
    have h2 := hn.up l[j] (List.getElem_mem _)
    omega
  · have : i = j := by omega
    subst this; exact Int.le_refl _
set_option maxHeartbeats 1000000 in
theorem bin_runs {w : World} {v : Value} {l : List (Int × Int)} (t : Int) (ht : 0 ≤ t ∧ t < 65536) (h : RSl w v l) (hn : Rn l) (hr : R16 l) (hl : l.length ≤ 1000000) :
    Calls Try.prog 106 #[v, .int .u16 t, .func (.func 107) #[] #[]] w (AtTwo w l t) := by
  obtain ⟨a, cap, rfl, _⟩ := h.slice_
  have H := Hidden.mk h
  have HR := Hidden.mk hr
  have HN := Hidden.mk hn
  have HT := Hidden.mk ht
  clear h hr hn ht
  generalize hN : l.length = n at *
  have HL := Hidden.mk hN
  clear hN
  go_enter Try.func106, Try.ntmps106
  go_wp2_with fail
  go_loopw [9, 10] (fun vi vj wr => ∃ i j : Nat, vi = .int .i64 i ∧ vj = .int .i64 j ∧ i ≤ j ∧ j ≤ n ∧ (∀ p r, p < i → l[p]? = some r → r.2 < t) ∧ (∀ p r, j ≤ p → l[p]? = some r → t ≤ r.2) ∧ Mod [] w wr) (fun vi vj _ => (intOf vj - intOf vi).toNat)
  case atStart => exact ⟨0, n, rfl, rfl, by omega, by omega, by omega, (fun p r h1 h2 => by have := (List.getElem?_eq_some_iff.1 h2).1; have := HL.out; omega), Mod.refl [] w⟩
  case round =>
    obtain ⟨i, j, rfl, rfl, hij, hjn, h1, h2, hm⟩ := hrel
    have H1 := Hidden.mk h1
    have H2 := Hidden.mk h2
    have HM := Hidden.mk hm
    clear h1 h2
    by_cases hlt : i < j
    · obtain ⟨b, off, p, q, rfl, hbl, hx, hc1, hc2⟩ := (H.out.news hm).get (i := (i + j) / 2) (by omega)
      have HX := Hidden.mk hx
      have hb := HR.out (p, q) (List.mem_of_getElem? hx)
      have HK := Hidden.mk (at1_runs (w := wr) p q t (by simp only at hb; omega) HT.out)
      clear hx hm hb
      go_wp2_with fail
      refine HK.out.mono ?_
      rintro e w3 ⟨rfl, hm3⟩
      have HM3 := Hidden.mk (HM.out.trans hm3 (by simp))
      clear hm3 HK
      by_cases hqt : q - t < 0
      · have hqd : decide (q - t < 0) = true := decide_eq_true hqt
        have HQ := Hidden.mk hqt
        clear hqt
        go_wp2_with fail
        go_roundw
        case rel =>
          refine ⟨(i + j) / 2 + 1, j, by go_num, rfl, by omega, hjn, fun p' r hp' hr' => ?_, H2.out, HM3.out⟩
          have := rn_up HN.out (show p' ≤ (i + j) / 2 by omega) hr' HX.out
          have := HQ.out
          simp only at *
          omega
        case measure => simp [intOf]; omega
      · have hqd : decide (q - t < 0) = false := decide_eq_false hqt
        have HQ := Hidden.mk hqt
        clear hqt
        go_wp2_with fail
        go_roundw
        case rel =>
          refine ⟨i, (i + j) / 2, rfl, (by first | rfl | go_num), by omega, by omega, H1.out, fun p' r hp' hr' => ?_, HM3.out⟩
          have := rn_up HN.out hp' HX.out hr'
          have := HQ.out
          simp only at *
          omega
        case measure => simp [intOf]; omega
    · have e : i = j := by omega
      subst e
      have HA : Hidden (AtR l t i) := ⟨⟨by rw [HL.out]; exact hjn, H1.out, H2.out⟩⟩
      by_cases hin : i < n
      · have hind : decide (i < n) = true := decide_eq_true hin
        have hinz : decide ((i : Int) < (n : Int)) = true := decide_eq_true (by omega)
        obtain ⟨b, off, p, q, rfl, hbl, hx, hc1, hc2⟩ := (H.out.news hm).get (i := i) hin
        have hb := HR.out (p, q) (List.mem_of_getElem? hx)
        have HK := Hidden.mk (at1_runs (w := wr) p q t (by simp only at hb; omega) HT.out)
        clear hx hm hb hlt
        go_wp2_with fail
        refine HK.out.mono ?_
        rintro e w3 ⟨rfl, hm3⟩
        have HM3 := Hidden.mk (HM.out.trans hm3 (by simp))
        clear hm3 HK
        go_wp2_with fail
        go_ret2
        exact ⟨i, _, rfl, HA.out, HM3.out⟩
      · have hind : decide (i < n) = false := decide_eq_false hin
        have hinz : decide ((i : Int) < (n : Int)) = false := decide_eq_false (by omega)
        clear hm hlt
        go_wp2_with fail
        go_ret2
        exact ⟨i, _, rfl, HA.out, HM.out⟩
set_option maxHeartbeats 400000 in
theorem at_runs {w : World} {v : Value} {l : List (Int × Int)} (t : Int) (ht : 0 ≤ t ∧ t < 65536) (h : RSl w v l) (hn : Rn l) (hr : R16 l) (hl : l.length ≤ 1000000) :
    Calls Try.prog 94 #[v, .int .u16 t] w (AtOnly w l t) := by
  have HK := Hidden.mk (bin_runs t ht h hn hr hl)
  obtain ⟨a, cap, rfl, _⟩ := h.slice_
  clear h hr hn
  go_enter Try.func94, Try.ntmps94
  go_wp2_with fail
  refine HK.out.mono ?_
  rintro e w1 ⟨i, g, rfl, ha, hm⟩
  have HA := Hidden.mk (And.intro ha hm)
  clear ha hm
  go_wp2_with fail
  go_ret
  exact ⟨i, rfl, HA.out⟩
/-- Has. -/
def HasOnly (w : World) (l : List (Int × Int)) (t : Int) (e : Ending) (w' : World) : Prop := ∃ g : Bool, e = .returned (.bool g) ∧ (g = true ↔ inR l t) ∧ Mod [] w w'
set_option maxHeartbeats 1000000 in
theorem has_runs {w : World} {v : Value} {l : List (Int × Int)} (t : Int) (ht : 0 ≤ t ∧ t < 65536) (h : RSl w v l) (hn : Rn l) (hr : R16 l) (hl : l.length ≤ 1000000) :
    Calls Try.prog 71 #[v, .int .u16 t] w (HasOnly w l t) := by
  have HK := Hidden.mk (at_runs t ht h hn hr hl)
  have H := Hidden.mk h
  have HN := Hidden.mk hn
  obtain ⟨a, cap, rfl, _⟩ := h.slice_
  clear h hr hn
  generalize hN : l.length = n at *
  have HL := Hidden.mk hN
  clear hN
  go_enter Try.func71, Try.ntmps71
  go_wp2_with fail
  refine HK.out.mono ?_
  rintro e w1 ⟨i, rfl, ha, hm⟩
  have HA := Hidden.mk (And.intro ha (And.intro (ha.has HN.out) hm))
  have hin0 : i ≤ n := by rw [← HL.out]; exact ha.1
  clear ha
  by_cases hin : i < n
  · have hind : decide (i < n) = true := decide_eq_true hin
    obtain ⟨b, off, p, q, rfl, hbl, hx, hc1, hc2⟩ := (H.out.news hm).get (i := i) hin
    have HX := Hidden.mk hx
    clear hx hm HK
    by_cases hpt : p ≤ t
    · have hpd : decide (p ≤ t) = true := decide_eq_true hpt
      have HQ : Hidden (inR l t) := ⟨HA.out.2.1.2 ⟨_, HX.out, hpt⟩⟩
      clear hpt
      go_wp2_with fail
      go_ret
      exact ⟨true, rfl, ⟨fun _ => HQ.out, fun _ => rfl⟩, HA.out.2.2⟩
    · have hpd : decide (p ≤ t) = false := decide_eq_false hpt
      have HQ : Hidden (¬ inR l t) := ⟨fun h => by
        obtain ⟨r, h1, h2⟩ := HA.out.2.1.1 h
        rw [HX.out] at h1; injection h1 with h1; subst h1
        exact hpt h2⟩
      clear hpt
      go_wp2_with fail
      go_ret
      exact ⟨false, rfl, ⟨fun h => Bool.noConfusion h, fun h => absurd h HQ.out⟩, HA.out.2.2⟩
  · have hind : decide (i < n) = false := decide_eq_false hin
    have HQ : Hidden (¬ inR l t) := ⟨fun h => by
      obtain ⟨r, h1, h2⟩ := HA.out.2.1.1 h
      have := (List.getElem?_eq_some_iff.1 h1).1
      have := HL.out; omega⟩
    clear hm HK
    go_wp2_with fail
    go_ret
    exact ⟨false, rfl, ⟨fun h => Bool.noConfusion h, fun h => absurd h HQ.out⟩, HA.out.2.2⟩
/-- A number, or none, as the set tells it. -/
def NextOnly (w : World) (l : List (Int × Int)) (f : Nat → Bool) (t : Nat) (e : Ending) (w' : World) : Prop := ∃ (x : Int) (g : Bool), e = .returned (.tuple #[.int .u16 x, .bool g]) ∧ IsNext f t (atL (x, g)) ∧ (0 ≤ x ∧ x < 65536) ∧ nextR t l = (x, g) ∧ Mod [] w w'
def PrevOnly (w : World) (l : List (Int × Int)) (f : Nat → Bool) (t : Nat) (e : Ending) (w' : World) : Prop := ∃ (x : Int) (g : Bool), e = .returned (.tuple #[.int .u16 x, .bool g]) ∧ IsPrev f t (atL (x, g)) ∧ (0 ≤ x ∧ x < 65536) ∧ prevR t l = (x, g) ∧ Mod [] w w'
set_option maxHeartbeats 1000000 in
theorem next_runs {w : World} {v : Value} {l : List (Int × Int)} {f : Nat → Bool} (t : Nat) (ht : t < 65536) (h : RSl w v l) (hf : RF l f) :
    Calls Try.prog 72 #[v, .int .u16 t] w (NextOnly w l f t) := by
  have hsh := hf.short
  have HK := Hidden.mk (at_runs t (by omega) h hf.rn hf.b16 (by omega))
  have H := Hidden.mk h
  have HF := Hidden.mk hf
  obtain ⟨a, cap, rfl, _⟩ := h.slice_
  clear h hf
  generalize hN : l.length = n at *
  have HL := Hidden.mk hN
  clear hN
  obtain ⟨z, hz⟩ : ∃ z : Int, z = t := ⟨_, rfl⟩
  rw [← hz] at HK ⊢
  have HZ := Hidden.mk hz
  clear hz
  go_enter Try.func72, Try.ntmps72
  go_wp2_with fail
  refine HK.out.mono ?_
  rintro e w1 ⟨i, rfl, ha, hm⟩
  have hin0 : i ≤ n := by rw [← HL.out]; exact ha.1
  have ha2 : AtR l t i := by rw [← HZ.out]; exact ha
  have HA := Hidden.mk (And.intro (ha2.next HF.out) hm)
  have HI := Hidden.mk (ha2.one (rat_at t HF.out.rn))
  clear ha ha2
  by_cases hin : i < n
  · have hind : decide (n ≤ i) = false := decide_eq_false (by omega)
    obtain ⟨b, off, p, q, rfl, hbl, hx, hc1, hc2⟩ := (H.out.news hm).get (i := i) hin
    have HX := Hidden.mk (HA.out.1.2 _ hx)
    have HNR := Hidden.mk (show nextR t l = (max (t : Int) p, true) from by unfold nextR; rw [← HI.out, hx])
    have HB := Hidden.mk (HF.out.b16 _ (List.mem_of_getElem? hx))
    clear hx hm HK
    go_wp2_with fail
    go_ret2
    exact ⟨_, true, rfl, by rw [HZ.out]; exact HX.out, by have hb : 0 ≤ p ∧ p < 65536 ∧ 0 ≤ q ∧ q < 65536 := HB.out; have := HZ.out; omega, by rw [HNR.out, HZ.out], HA.out.2⟩
  · have hind : decide (n ≤ i) = true := decide_eq_true (by omega)
    have HX := Hidden.mk (HA.out.1.1 (by rw [HL.out]; omega))
    have HNR := Hidden.mk (show nextR t l = (0, false) from by unfold nextR; rw [← HI.out, List.getElem?_eq_none (by rw [HL.out]; omega)])
    clear hm HK
    go_wp2_with fail
    go_ret2
    exact ⟨0, false, rfl, HX.out, by omega, HNR.out, HA.out.2⟩
set_option maxHeartbeats 1000000 in
theorem prev_runs {w : World} {v : Value} {l : List (Int × Int)} {f : Nat → Bool} (t : Nat) (ht : t < 65536) (h : RSl w v l) (hf : RF l f) :
    Calls Try.prog 73 #[v, .int .u16 t] w (PrevOnly w l f t) := by
  have hsh := hf.short
  have HK := Hidden.mk (at_runs t (by omega) h hf.rn hf.b16 (by omega))
  have H := Hidden.mk h
  have HF := Hidden.mk hf
  obtain ⟨a, cap, rfl, _⟩ := h.slice_
  clear h hf
  generalize hN : l.length = n at *
  have HL := Hidden.mk hN
  clear hN
  obtain ⟨z, hz⟩ : ∃ z : Int, z = t := ⟨_, rfl⟩
  rw [← hz] at HK ⊢
  have HZ := Hidden.mk hz
  clear hz
  go_enter Try.func73, Try.ntmps73
  go_wp2_with fail
  refine HK.out.mono ?_
  rintro e w1 ⟨i, rfl, ha, hm⟩
  have hin0 : i ≤ n := by rw [← HL.out]; exact ha.1
  have ha2 : AtR l t i := by rw [← HZ.out]; exact ha
  have HA := Hidden.mk (And.intro (ha2.prev ht HF.out) hm)
  have HT := Hidden.mk ht
  have HI := Hidden.mk (ha2.one (rat_at t HF.out.rn))
  have HH := Hidden.mk (ha2.has HF.out.rn)
  clear ha ha2 HK ht
  have hcase : (∃ b off p q, i < n ∧ a = some ⟨b, off, none⟩ ∧ b < w1.heap.size ∧ l[i]? = some (p, q) ∧ w1.cell? ⟨b, off + i * 2, none⟩ = some (.int .u16 p) ∧ p ≤ z) ∨ ((i = n ∨ ∃ b off p q, i < n ∧ a = some ⟨b, off, none⟩ ∧ b < w1.heap.size ∧ l[i]? = some (p, q) ∧ w1.cell? ⟨b, off + i * 2, none⟩ = some (.int .u16 p) ∧ ¬ p ≤ z) ∧ ∀ r, l[i]? = some r → ¬ r.1 ≤ t) := by
    rcases Nat.lt_or_ge i n with hin | hin
    · obtain ⟨b, off, p, q, rfl, hbl, hx, hc1, hc2⟩ := (H.out.news hm).get (i := i) hin
      by_cases hp : p ≤ z
      · exact .inl ⟨b, off, p, q, hin, rfl, hbl, hx, hc1, hp⟩
      · refine .inr ⟨.inr ⟨b, off, p, q, hin, rfl, hbl, hx, hc1, hp⟩, fun r hr => ?_⟩
        rw [hx] at hr; injection hr with hr; subst hr
        rw [← HZ.out]; exact hp
    · refine .inr ⟨.inl (by omega), fun r hr => ?_⟩
      have := (List.getElem?_eq_some_iff.1 hr).1
      have := HL.out; omega
  rcases hcase with ⟨b, off, p, q, hin, rfl, hbl, hx, hc1, hpz⟩ | ⟨hor, hno⟩
  · have hind : decide (i < n) = true := decide_eq_true hin
    have hpd : decide (p ≤ z) = true := decide_eq_true hpz
    have HX := Hidden.mk (HA.out.1.1 _ hx (by rw [← HZ.out]; exact hpz))
    have HPR := Hidden.mk (show prevR t l = ((t : Int), true) from by unfold prevR; rw [if_pos (HH.out.2 ⟨_, hx, by rw [← HZ.out]; exact hpz⟩)])
    clear hx hm hpz hin0
    go_wp2_with fail
    go_ret2
    exact ⟨z, true, rfl, by rw [HZ.out]; exact HX.out, by have := HT.out; have := HZ.out; omega, by rw [HPR.out, HZ.out], HA.out.2⟩
  · have HX := Hidden.mk (HA.out.1.2 hno)
    have HNI : Hidden (¬ inR l t) := ⟨fun h => by obtain ⟨r, h1, h2⟩ := HH.out.1 h; exact hno r h1 h2⟩
    clear hno
    rcases Nat.eq_zero_or_pos i with h0 | h0
    · have HX2 := Hidden.mk (HX.out.1 h0)
      have HPR := Hidden.mk (show prevR t l = (0, false) from by unfold prevR; rw [if_neg HNI.out, ← HI.out, if_pos h0])
      subst h0
      clear HX
      rcases hor with h1 | ⟨b, off, p, q, hin, rfl, hbl, hx, hc1, hpz⟩
      · subst h1
        clear hm
        go_wp2_with fail
        go_ret2
        exact ⟨0, false, rfl, HX2.out, by omega, HPR.out, HA.out.2⟩
      · have hind : decide (0 < n) = true := decide_eq_true hin
        have hpd : decide (p ≤ z) = false := decide_eq_false hpz
        rw [Nat.zero_mul, Nat.add_zero] at hc1
        clear hx hm hpz
        go_wp2_with fail
        go_ret2
        exact ⟨0, false, rfl, HX2.out, by omega, HPR.out, HA.out.2⟩
    · obtain ⟨k, rfl⟩ : ∃ k, i = k + 1 := ⟨i - 1, by omega⟩
      obtain ⟨b2, off2, p2, q2, he, hbl2, hx2, hd1, hd2⟩ := (H.out.news hm).get (i := k) (by omega)
      have HX2 := Hidden.mk (HX.out.2 (p2, q2) h0 hx2)
      have HB := Hidden.mk (HF.out.b16 _ (List.mem_of_getElem? hx2))
      have HPR := Hidden.mk (show prevR t l = (q2, true) from by unfold prevR; rw [if_neg HNI.out, ← HI.out, if_neg (by omega), Nat.add_sub_cancel, hx2])
      have ek : IntKind.i64.wrap (k : Int) = k := IntWalk.i64_in _ (by have := HF.out.short; have := HL.out; omega)
      have ez : ((k : Int) + 1 == 0) = false := by simp; omega
      have en : (k : Int) < (n : Int) := by omega
      have en0 : (0 : Int) ≤ (k : Int) := by omega
      have en1 : k < n := by omega
      clear HX hx2
      rcases hor with h1 | ⟨b, off, p, q, hin, he2, hbl, hx, hc1, hpz⟩
      · have hind : decide (k + 1 < n) = false := decide_eq_false (by omega)
        have hindz : decide ((k : Int) + 1 < (n : Int)) = false := decide_eq_false (by omega)
        subst he
        clear hm h0 h1 hin0
        go_wp2_with fail
        go_ret2
        exact ⟨q2, true, rfl, HX2.out, HB.out.2.2, HPR.out, HA.out.2⟩
      · have hind : decide (k + 1 < n) = true := decide_eq_true hin
        have hindz : decide ((k : Int) + 1 < (n : Int)) = true := decide_eq_true (by omega)
        have hpd : decide (p ≤ z) = false := decide_eq_false hpz
        subst he
        injection he2 with he2
        injection he2 with e1 e2
        subst e1 e2
        have hz3 : (k : Int) + 1 < (n : Int) := by omega
        have hz4 : (0 : Int) ≤ (k : Int) + 1 := by omega
        clear hx hm hpz h0 hin0 hin
        go_wp2_with fail
        go_ret2
        exact ⟨q2, true, rfl, HX2.out, HB.out.2.2, HPR.out, HA.out.2⟩
/-- The k-th. -/
def SelOnly (w : World) (l : List (Int × Int)) (k : Int) (e : Ending) (w' : World) : Prop := ∃ (x : Int) (g : Bool), e = .returned (.tuple #[.int .u16 x, .bool g]) ∧ (0 ≤ k → rsel k l = (x, g)) ∧ (k < 0 → (x, g) = (0, false)) ∧ (0 ≤ x ∧ x < 65536) ∧ Mod [] w w'
set_option maxHeartbeats 1000000 in
theorem sel_runs {w : World} {v : Value} {l : List (Int × Int)} (k : Int) (hk : k ≤ 9223372036854775807) (h : RSl w v l) (hn : Rn l) (hr : R16 l) (hl : l.length ≤ 1000000) :
    Calls Try.prog 75 #[v, .int .i64 k] w (SelOnly w l k) := by
  obtain ⟨a, cap, rfl, _⟩ := h.slice_
  have H := Hidden.mk h
  have HR := Hidden.mk hr
  have HN := Hidden.mk hn
  clear h hr hn
  by_cases hk0 : k < 0
  · have HK0 := Hidden.mk hk0
    go_enter Try.func75, Try.ntmps75
    go_wp2_with fail
    go_ret2
    exact ⟨0, false, rfl, fun h => by have := HK0.out; omega, fun _ => rfl, by omega, Mod.refl [] w⟩
  · have hkd : decide (k < 0) = false := decide_eq_false hk0
    have hk1 : 0 ≤ k := by omega
    clear hk0
    go_enter Try.func75, Try.ntmps75
    go_wp2_with fail
    go_loopw [1, 13] (fun vk vi wr => ∃ (i : Nat) (z : Int), i ≤ l.length ∧ vi = .int .i64 i ∧ vk = .int .i64 z ∧ 0 ≤ z ∧ z ≤ k ∧ rsel z (l.drop i) = rsel k l ∧ Mod [] w wr) (fun _ vi _ => l.length - (intOf vi).toNat)
    case atStart => exact ⟨0, k, by omega, rfl, rfl, hk1, Int.le_refl _, rfl, Mod.refl [] w⟩
    case round =>
      obtain ⟨i, z, hi, rfl, rfl, hz0, hz1, hs, hm⟩ := hrel
      by_cases hin : i < l.length
      · obtain ⟨b, off, p, q, rfl, _, hx, hc1, hc2⟩ := (H.out.news hm).get hin
        have hb := HR.out (p, q) (List.mem_of_getElem? hx)
        have hup : p ≤ q := HN.out.up (p, q) (List.mem_of_getElem? hx)
        obtain ⟨hp0, hp1, hq0, hq1⟩ : 0 ≤ p ∧ p < 65536 ∧ 0 ≤ q ∧ q < 65536 := hb
        rw [drop_get hx, show rsel z ((p, q) :: l.drop (i + 1)) = (if q - p + 1 ≤ z then rsel (z - (q - p + 1)) (l.drop (i + 1)) else (p + z, true)) from rfl] at hs
        have HS := Hidden.mk hs
        have HK := Hidden.mk (count_run (w := (wr.alloc (.cells #[.int .u16 p, .int .u16 q] 34))) p q ⟨hp0, hp1, hq0, hq1⟩)
        have HM := Hidden.mk (hm.alloc (.cells #[.int .u16 p, .int .u16 q] 34))
        have KN : Hidden (∀ W, Mod [] (wr.alloc (.cells #[.int .u16 p, .int .u16 q] 34)) W → W.cell? ⟨wr.heap.size, 0, none⟩ = some (.int .u16 p)) := ⟨fun W hW => by
          have hB := (Blk.new wr 34 #[.int .u16 p, .int .u16 q]).mod hW (fun hk => by simp at hk)
          rw [hB.cell]; rfl⟩
        clear hx hm hs
        by_cases hc : q - p + 1 ≤ z
        · have hcd : decide (q - p + 1 ≤ z) = true := decide_eq_true hc
          have ez : IntKind.i64.wrap (z - (q - p + 1)) = z - (q - p + 1) := IntWalk.i64_in _ (by omega)
          have HS2 : Hidden (rsel (z - (q - p + 1)) (l.drop (i + 1)) = rsel k l) := ⟨by have := HS.out; rwa [if_pos hc] at this⟩
          have HC := Hidden.mk (show 0 ≤ z - (q - p + 1) ∧ z - (q - p + 1) ≤ k from by omega)
          clear hc HS
          go_wp2_with fail
          refine HK.out.mono ?_
          rintro e' w2 ⟨rfl, hm2⟩
          have HM2 := Hidden.mk (HM.out.trans hm2 (by simp))
          clear hm2 HK HM
          go_wp2_with fail
          go_roundw
          case rel => exact ⟨i + 1, _, by omega, by go_num, rfl, HC.out.1, HC.out.2, HS2.out, HM2.out⟩
          case measure => simp [intOf]; omega
        · have hcd : decide (q - p + 1 ≤ z) = false := decide_eq_false hc
          have ez : IntKind.u16.wrap z = z := by rw [IntKind.wrap_u16]; omega
          have ez2 : IntKind.u16.wrap (p + z) = p + z := by rw [IntKind.wrap_u16]; omega
          have HS2 : Hidden ((p + z, true) = rsel k l) := ⟨by have := HS.out; rwa [if_neg hc] at this⟩
          have HC := Hidden.mk (show 0 ≤ p + z ∧ p + z < 65536 from by omega)
          have HK1 := Hidden.mk hk1
          clear hc HS hk1
          go_wp2_with fail
          refine HK.out.mono ?_
          rintro e' w2 ⟨rfl, hm2⟩
          have HM2 := Hidden.mk (HM.out.trans hm2 (by simp))
          have kc := KN.out _ hm2
          have hlt := Nat.lt_of_lt_of_le (show wr.heap.size < (wr.alloc (.cells #[.int .u16 p, .int .u16 q] 34)).heap.size from by simp) hm2.size
          clear hm2 HK HM
          go_wp2_with fail
          go_ret2
          exact ⟨p + z, true, rfl, fun _ => HS2.out.symm, fun h => by have := HK1.out; omega, HC.out, HM2.out⟩
      · have e : i = l.length := by omega
        subst e
        rw [List.drop_length] at hs
        have HS := Hidden.mk hs
        have HM := Hidden.mk hm
        have HK1 := Hidden.mk hk1
        clear hm hs hk1
        go_wp2_with fail
        go_ret2
        exact ⟨0, false, rfl, fun _ => HS.out.symm, fun h => by have := HK1.out; omega, by omega, HM.out⟩
end Go.Proofs.Ythcjnijggebcaaa
