/- stepstoneref06: Steps, Do. -/
import Derived.Test.YthcjnijggebcaaaRuns10
namespace Go.Proofs.Ythcjnijggebcaaa
open Go.RowKit
set_option linter.unusedVariables false
set_option linter.unusedSimpArgs false
/-- n numbers from p on, each so much above. -/
def stepsN (p s n : Nat) : List Int := (List.range n).map (fun i : Nat => ((p + i * s : Nat) : Int))
def stepsC (p q s : Nat) : Nat := (q + s - p) / s
def stepsL (p q s : Nat) : List Int := stepsN p s (stepsC p q s)
theorem stepsN_len (p s n : Nat) : (stepsN p s n).length = n := by simp [stepsN]
theorem stepsN_snoc (p s n : Nat) : stepsN p s (n + 1) = stepsN p s n ++ [((p + n * s : Nat) : Int)] := by simp [stepsN, List.range_succ]
theorem stepsC_lt {p q s n : Nat} (hs : 0 < s) : n < stepsC p q s ↔ p + n * s ≤ q := by
  unfold stepsC
  have h := Nat.le_div_iff_mul_le hs (x := n + 1) (y := q + s - p)
  rw [Nat.succ_mul] at h
  constructor
  · intro h1; have := h.1 h1; omega
  · intro h1; exact h.2 (by omega)
theorem stepsL_bnd {p q s : Nat} (hs : 0 < s) (hq : q < 65536) : ∀ x ∈ stepsL p q s, 0 ≤ x ∧ x < 65536 := by
  intro x hx
  unfold stepsL stepsN at hx
  simp only [List.mem_map, List.mem_range] at hx
  obtain ⟨i, hi, rfl⟩ := hx
  have := (stepsC_lt hs).1 hi
  omega
theorem stepsC_le {p q s : Nat} (hs : 0 < s) : stepsC p q s ≤ q + 1 := by
  rcases Nat.lt_or_ge (q + 1) (stepsC p q s) with h | h
  · have := (stepsC_lt (p := p) (q := q) (n := q + 1) hs).1 h
    have : q + 1 ≤ (q + 1) * s := Nat.le_mul_of_pos_right _ hs
    omega
  · exact h
set_option maxHeartbeats 1000000 in
theorem steps06 {w : World} (d p q st : Nat) (hp : p < 65536) (hq : q < 65536) (hst : st < 65536) :
    Calls Try.prog 100 #[.agg #[.int .u8 d, .int .u16 p, .int .u16 q, .int .u16 st]] w (RowOnly .u16 24 w (stepsL p q (2 + st % 9))) := by
  have K0 : Hidden (∀ W, Mod [] (w.alloc (.cells #[.int .u8 d, .int .u16 p, .int .u16 q, .int .u16 st] 99)) W → W.cell? ⟨w.heap.size, 2, none⟩ = some (.int .u16 q) ∧ W.cell? ⟨w.heap.size, 3, none⟩ = some (.int .u16 st) ∧ w.heap.size < W.heap.size) := ⟨fun W hW => by
    have hB := (Blk.new w 99 #[.int .u8 d, .int .u16 p, .int .u16 q, .int .u16 st]).mod hW (fun hk => by simp at hk)
    exact ⟨by rw [hB.cell]; rfl, by rw [hB.cell]; rfl, hB.lt⟩⟩
  have hs9 : st % 9 < 9 := Nat.mod_lt _ (by decide)
  have hw1 : IntKind.i64.wrap (p : Int) = p := IntWalk.i64_in _ (by omega)
  have hw2 : IntKind.i64.wrap (q : Int) = q := IntWalk.i64_in _ (by omega)
  have hw3 : IntKind.i64.wrap ((st : Int) % 9) = (st : Int) % 9 := IntWalk.i64_in _ (by omega)
  have hw4 : IntKind.i64.wrap (2 + (st : Int) % 9) = 2 + (st : Int) % 9 := IntWalk.i64_in _ (by omega)
  obtain ⟨s, hs⟩ : ∃ s, s = 2 + st % 9 := ⟨_, rfl⟩
  have hsp : 0 < s := by omega
  have hs10 : s ≤ 10 := by omega
  have hsz : (2 + (st : Int) % 9) = (s : Int) := by omega
  rw [← hs]
  have HS := Hidden.mk hs
  have HQ := Hidden.mk hq
  have HL := Hidden.mk (fun n => stepsC_lt (p := p) (q := q) (n := n) hsp)
  have HM0 := Hidden.mk ((Mod.refl [] w).alloc (.cells #[.int .u8 d, .int .u16 p, .int .u16 q, .int .u16 st] 99))
  clear hs
  go_enter Try.func100, Try.ntmps100
  go_wp2_with fail
  go_loopw [3, 4] (fun vo vi wr => ∃ n : Nat, vi = .int .i64 ((p + n * s : Nat) : Int) ∧ n ≤ stepsC p q s ∧ WayI .u16 24 (w.alloc (.cells #[.int .u8 d, .int .u16 p, .int .u16 q, .int .u16 st] 99)) wr vo n (stepsN p s n)) (fun _ vi _ => ((q : Int) + 1 - intOf vi).toNat)
  case atStart => exact ⟨0, by simp, Nat.zero_le _, WayI.nil_ (Mod.refl [] _)⟩
  case round =>
    obtain ⟨n, rfl, hn, hW⟩ := hrel
    obtain ⟨kq, ks, kl⟩ := K0.out _ hW.mod
    have hnz : (p + n * s ≤ q) ↔ n < stepsC p q s := (HL.out n).symm
    obtain ⟨m, hm⟩ : ∃ m, p + n * s = m := ⟨_, rfl⟩
    rw [hm] at hnz ⊢
    have HM := Hidden.mk hm
    have HNZ := Hidden.mk hnz
    have hcl : stepsC p q s ≤ q + 1 := stepsC_le hsp
    clear hm hnz
    by_cases hmq : m ≤ q
    · have hmqd : decide (m ≤ q) = true := decide_eq_true hmq
      have hwv : IntKind.u16.wrap (m : Int) = m := by rw [IntKind.wrap_u16]; omega
      have hwn : IntKind.i64.wrap ((m : Int) + (s : Int)) = m + s := IntWalk.i64_in _ (by omega)
      have E := Hidden.mk (show stepsN p s (n + 1) = stepsN p s n ++ [(m : Int)] from by rw [stepsN_snoc, HM.out])
      have hd := Hidden.mk (icells_snoc .u16 (stepsN p s n) m)
      have hw2' := Hidden.mk (hW.alloc (.cells #[.int .u16 m] 24))
      have hn1 := Hidden.mk (holds_one wr (.int .u16 m) 24 rfl)
      have hn2 : n + 1 ≤ 1000000 := by omega
      have hn3 : n + 1 ≤ stepsC p q s := HNZ.out.1 hmq
      have HN3 := Hidden.mk hn3
      clear hW hmq hn hcl hn3
      go_wp2_with (refine wpList_any rfl (.tmp 20) (.tmp 23) 22 rfl 24 (.int .u16 0) 1 2 (by kernel_rfl) u1606 rfl (by decide) _ _ _ rfl hw2'.out.row _ _ _ rfl hn1.out (by simp [Value.oneCell']) (by omega) (by omega) ?_; intro b4 c4 w4 hr4 hm4 hf4; have hW4 := Hidden.mk (hw2'.out.next hr4 hm4 hf4 hd.out); clear hr4 hm4 hf4 hw2'; have k4 := K0.out _ hW4.out.mod; obtain ⟨kq4, ks4, kl4⟩ := k4)
      go_roundw
      case rel => exact ⟨n + 1, by rw [Nat.succ_mul, ← Nat.add_assoc, HM.out]; rfl, HN3.out, by rw [E.out]; exact hW4.out⟩
      case measure => have hmq := of_decide_eq_true hmqd; simp [intOf]; omega
    · have hmqd : decide (m ≤ q) = false := decide_eq_false hmq
      have e : n = stepsC p q s := by
        have : ¬ n < stepsC p q s := fun h => hmq (HNZ.out.2 h)
        omega
      have HW := Hidden.mk hW
      have HE := Hidden.mk e
      clear hW hmq e
      go_wp2_with fail
      go_ret
      exact ⟨_, rfl, by have := HW.out.after HM0.out; rw [HE.out] at this; unfold stepsL; rw [stepsN_len]; exact this⟩
/-- What an act does to a set. -/
def actF (d p q st : Nat) (f : Nat → Bool) : Nat → Bool :=
  if d % 5 = 0 then (fun i => if p ≤ i ∧ i ≤ p then true else f i)
  else if d % 5 = 1 then (fun i => if p ≤ i ∧ i ≤ p then false else f i)
  else if d % 5 = 2 then (fun i => if p ≤ i ∧ i ≤ q then true else f i)
  else if d % 5 = 3 then (fun i => if p ≤ i ∧ i ≤ q then false else f i)
  else addF f (stepsL p q (2 + st % 9))
def DoPost (w : World) (v : Value) (g : Nat → Bool) (e : Ending) (w' : World) : Prop := ∃ c : Int, e = .returned (.int .i64 c) ∧ BS 4 w' v g ∧ Mod (rb v) w w'
set_option maxHeartbeats 1000000 in
theorem do06 {w : World} {v : Value} {f : Nat → Bool} (h : BS 4 w v f) (d p q st : Nat) (hd : d < 256) (hp : p < 65536) (hq : q < 65536) (hst : st < 65536) :
    Calls Try.prog 99 #[v, .agg #[.int .u8 d, .int .u16 p, .int .u16 q, .int .u16 st]] w (DoPost w v (actF d p q st f)) := by
  have HF := Hidden.mk (fun (W : World) (g : Nat → Bool) (hW : BS 4 W v g) (a b : Nat) (ha : a < 65536) (hb : b < 65536) (is : Bool) => fill06 hW a b ha hb is)
  have h1 := h.alloc (.cells #[.int .u8 d, .int .u16 p, .int .u16 q, .int .u16 st] 99)
  have HM0 := Hidden.mk ((Mod.refl (rb v) w).alloc (.cells #[.int .u8 d, .int .u16 p, .int .u16 q, .int .u16 st] 99))
  obtain ⟨sb, rfl, hrb, hlt, _, _⟩ := h.at_
  have K0 : Hidden (∀ W, Mod [sb] (w.alloc (.cells #[.int .u8 d, .int .u16 p, .int .u16 q, .int .u16 st] 99)) W → W.cell? ⟨w.heap.size, 2, none⟩ = some (.int .u16 q) ∧ W.cell? ⟨w.heap.size, 3, none⟩ = some (.int .u16 st) ∧ w.heap.size < W.heap.size) := ⟨fun W hW => by
    have hB := (Blk.new w 99 #[.int .u8 d, .int .u16 p, .int .u16 q, .int .u16 st]).mod hW (fun hk => by simp at hk; omega)
    exact ⟨by rw [hB.cell]; rfl, by rw [hB.cell]; rfl, hB.lt⟩⟩
  have HRB := Hidden.mk hrb
  have HS1 := Hidden.mk h1
  have HD := Hidden.mk hd
  clear h h1 hrb
  have hrem : d % 5 < 5 := Nat.mod_lt _ (by decide)
  by_cases e0 : d % 5 = 0
  · have ez : (d : Int) % 5 = 0 := by omega
    have HA := Hidden.mk (show actF d p q st f = (fun i => if p ≤ i ∧ i ≤ p then true else f i) from by unfold actF; rw [if_pos e0])
    have HK := Hidden.mk (HF.out _ _ HS1.out p p hp hp true)
    clear e0 hrem
    go_enter Try.func99, Try.ntmps99
    go_wp2_with fail
    refine HK.out.mono ?_
    rintro e w2 ⟨n, rfl, _, _, hs, hm⟩
    have H2 := Hidden.mk (And.intro hs (HM0.out.trans hm (fun x hx => .inl hx)))
    clear hs hm HK
    go_wp2_with fail
    go_ret
    exact ⟨_, rfl, by rw [HA.out]; exact H2.out.1, H2.out.2⟩
  · by_cases e1 : d % 5 = 1
    · have ez : (d : Int) % 5 = 1 := by omega
      have HA := Hidden.mk (show actF d p q st f = (fun i => if p ≤ i ∧ i ≤ p then false else f i) from by unfold actF; rw [if_neg e0, if_pos e1])
      have HK := Hidden.mk (HF.out _ _ HS1.out p p hp hp false)
      clear e0 e1 hrem
      go_enter Try.func99, Try.ntmps99
      go_wp2_with fail
      refine HK.out.mono ?_
      rintro e w2 ⟨n, rfl, _, _, hs, hm⟩
      have H2 := Hidden.mk (And.intro hs (HM0.out.trans hm (fun x hx => .inl hx)))
      clear hs hm HK
      go_wp2_with fail
      go_ret
      exact ⟨_, rfl, by rw [HA.out]; exact H2.out.1, H2.out.2⟩
    · by_cases e2 : d % 5 = 2
      · have ez : (d : Int) % 5 = 2 := by omega
        have HA := Hidden.mk (show actF d p q st f = (fun i => if p ≤ i ∧ i ≤ q then true else f i) from by unfold actF; rw [if_neg e0, if_neg e1, if_pos e2])
        have HK := Hidden.mk (HF.out _ _ HS1.out p q hp hq true)
        clear e0 e1 e2 hrem
        go_enter Try.func99, Try.ntmps99
        go_wp2_with fail
        refine HK.out.mono ?_
        rintro e w2 ⟨n, rfl, _, _, hs, hm⟩
        have H2 := Hidden.mk (And.intro hs (HM0.out.trans hm (fun x hx => .inl hx)))
        clear hs hm HK
        go_wp2_with fail
        go_ret
        exact ⟨_, rfl, by rw [HA.out]; exact H2.out.1, H2.out.2⟩
      · by_cases e3 : d % 5 = 3
        · have ez : (d : Int) % 5 = 3 := by omega
          have HA := Hidden.mk (show actF d p q st f = (fun i => if p ≤ i ∧ i ≤ q then false else f i) from by unfold actF; rw [if_neg e0, if_neg e1, if_neg e2, if_pos e3])
          have HK := Hidden.mk (HF.out _ _ HS1.out p q hp hq false)
          clear e0 e1 e2 e3 hrem
          go_enter Try.func99, Try.ntmps99
          go_wp2_with fail
          refine HK.out.mono ?_
          rintro e w2 ⟨n, rfl, _, _, hs, hm⟩
          have H2 := Hidden.mk (And.intro hs (HM0.out.trans hm (fun x hx => .inl hx)))
          clear hs hm HK
          go_wp2_with fail
          go_ret
          exact ⟨_, rfl, by rw [HA.out]; exact H2.out.1, H2.out.2⟩
        · have ez : (d : Int) % 5 = 4 := by omega
          have HA := Hidden.mk (show actF d p q st f = addF f (stepsL p q (2 + st % 9)) from by unfold actF; rw [if_neg e0, if_neg e1, if_neg e2, if_neg e3])
          clear e0 e1 e2 e3 hrem
          have hs9 : st % 9 < 9 := Nat.mod_lt _ (by decide)
          have hw1 : IntKind.i64.wrap (p : Int) = p := IntWalk.i64_in _ (by omega)
          have hw2 : IntKind.i64.wrap (q : Int) = q := IntWalk.i64_in _ (by omega)
          have hw3 : IntKind.i64.wrap ((st : Int) % 9) = (st : Int) % 9 := IntWalk.i64_in _ (by omega)
          have hw4 : IntKind.i64.wrap (2 + (st : Int) % 9) = 2 + (st : Int) % 9 := IntWalk.i64_in _ (by omega)
          obtain ⟨s, hs⟩ : ∃ s, s = 2 + st % 9 := ⟨_, rfl⟩
          have hsp : 0 < s := by omega
          have hs10 : s ≤ 10 := by omega
          have hsz : (2 + (st : Int) % 9) = (s : Int) := by omega
          have HS := Hidden.mk hs
          have HL := Hidden.mk (fun n => stepsC_lt (p := p) (q := q) (n := n) hsp)
          clear hs
          go_enter Try.func99, Try.ntmps99
          go_wp2_with fail
          go_loopw [5, 6] (fun vc vi wr => ∃ (n : Nat) (c : Int), vi = .int .i64 ((p + n * s : Nat) : Int) ∧ vc = .int .i64 c ∧ n ≤ stepsC p q s ∧ BS 4 wr (.slice (some ⟨sb, 0, none⟩) 65536 65536) (addF f (stepsN p s n)) ∧ Mod [sb] (w.alloc (.cells #[.int .u8 d, .int .u16 p, .int .u16 q, .int .u16 st] 99)) wr) (fun _ vi _ => ((q : Int) + 1 - intOf vi).toNat)
          case atStart => exact ⟨0, 0, by simp, rfl, Nat.zero_le _, by rw [show stepsN p s 0 = [] from rfl, addF_nil]; exact HS1.out, Mod.refl _ _⟩
          case round =>
            obtain ⟨n, c, rfl, rfl, hn, hB, hM⟩ := hrel
            clear ez
            obtain ⟨kq, ks, kl⟩ := K0.out _ hM
            have hnz : (p + n * s ≤ q) ↔ n < stepsC p q s := (HL.out n).symm
            obtain ⟨m, hm⟩ : ∃ m, p + n * s = m := ⟨_, rfl⟩
            rw [hm] at hnz ⊢
            have HM := Hidden.mk hm
            have HNZ := Hidden.mk hnz
            clear hm hnz
            by_cases hmq : m ≤ q
            · have hmqd : decide (m ≤ q) = true := decide_eq_true hmq
              have hwv : IntKind.u16.wrap (m : Int) = m := by rw [IntKind.wrap_u16]; omega
              have hwn : IntKind.i64.wrap ((m : Int) + (s : Int)) = m + s := IntWalk.i64_in _ (by omega)
              have E := Hidden.mk (show stepsN p s (n + 1) = stepsN p s n ++ [(m : Int)] from by rw [stepsN_snoc, HM.out])
              have HK := Hidden.mk (HF.out _ _ hB m m (by omega) (by omega) true)
              have HN3 : Hidden (n + 1 ≤ stepsC p q s) := ⟨HNZ.out.1 hmq⟩
              have HMM := Hidden.mk hM
              clear hB hM hmq hn
              go_wp2_with fail
              refine HK.out.mono ?_
              rintro e w2 ⟨n2, rfl, _, _, hs, hm⟩
              rw [HRB.out] at hm
              have H2 := Hidden.mk (And.intro hs (HMM.out.trans hm (fun x hx => .inl hx)))
              obtain ⟨kq2, ks2, kl2⟩ := K0.out _ H2.out.2
              clear hs hm HK
              go_wp2_with fail
              go_roundw
              case rel =>
                have h1 := H2.out.1
                rw [← addF_snoc, ← E.out] at h1
                exact ⟨n + 1, _, by rw [show p + (n + 1) * s = m + s from by rw [Nat.succ_mul, ← Nat.add_assoc, HM.out]]; rfl, rfl, HN3.out, h1, H2.out.2⟩
              case measure => have hmq := of_decide_eq_true hmqd; simp [intOf]; omega
            · have hmqd : decide (m ≤ q) = false := decide_eq_false hmq
              have e : n = stepsC p q s := by
                have : ¬ n < stepsC p q s := fun h => hmq (HNZ.out.2 h)
                omega
              have H2 := Hidden.mk (And.intro hB hM)
              have HE := Hidden.mk e
              clear hB hM hmq e
              go_wp2_with fail
              go_ret
              exact ⟨c, rfl, by have := H2.out.1; rw [HE.out] at this; rw [HA.out, ← HS.out]; exact this, HM0.out.trans H2.out.2 (fun x hx => .inl (by rw [HRB.out]; exact hx))⟩
end Go.Proofs.Ythcjnijggebcaaa
