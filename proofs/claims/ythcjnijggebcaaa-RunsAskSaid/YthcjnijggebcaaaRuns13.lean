/- stepstonelaw08: lay. -/
import Derived.Test.YthcjnijggebcaaaRuns12
import Derived.Test.YthcjnijggebcaaaArgs2
namespace Go.Proofs.Ythcjnijggebcaaa
open Go.RowKit
set_option linter.unusedVariables false
set_option linter.unusedSimpArgs false
theorem LawSt.news {w w' : World} {v vs : Value} {f : Nat → Bool} (h : LawSt w v vs f) (hW : Mod [] w w') : LawSt w' v vs f := by
  obtain ⟨l, l1, l2, l3, l4⟩ := h; exact ⟨l, l1.news hW, l2, l3.news hW, l4⟩
/-- What lay hands on. -/
def LayPost (w : World) (e : Ending) (w' : World) : Prop := ∃ v vs g, e = .returned (.tuple #[v, vs]) ∧ LawSt w' v vs g ∧ Mod [] w w'
set_option maxHeartbeats 4000000 in
set_option maxRecDepth 100000 in
theorem lay08 {w : World} {a : Option Addr} {len cap : Nat} {z : Nat → Nat → Int} (h : StRow [.u8, .u16, .u16, .u16] w a len cap z) :
    Calls Try.prog 35 #[.slice a len cap] w (LayPost w) := by
  obtain ⟨h1, h2⟩ := h.le
  have H := Hidden.mk h
  clear h
  go_enter Try.func35, Try.ntmps35
  go_wp2_with fail
  refine (new06 _).mono ?_
  rintro e w1 ⟨v1, rfl, hs, hm, hn⟩
  obtain ⟨sb, rfl, hrb, hlt, hcw, hfw⟩ := hs.at_
  have HSB := Hidden.mk (hn sb (by rw [hrb]; simp))
  have HRB := Hidden.mk hrb
  have HS : Hidden (LawSt w1 (.slice none 0 0) (.slice (some ⟨sb, 0, none⟩) 65536 65536) (fun _ => false)) := ⟨[], RSl.nil_ _, RF.empty, hs, fun b hb => by simp [rb, Value.ownBlock] at hb⟩
  have HM1 := Hidden.mk hm
  clear hs hm hn hcw hfw hrb hlt
  go_wp2_with fail
  go_loopw [4, 6, 7, 8, 12] (fun vl _ _ _ vi wr => ∃ (i : Nat) (g : Nat → Bool), i ≤ len ∧ vi = .int .i64 i ∧ LawSt wr vl (.slice (some ⟨sb, 0, none⟩) 65536 65536) g ∧ Mod [] w wr) (fun _ _ _ _ vi _ => len - (intOf vi).toNat)
  case atStart => exact ⟨0, _, by omega, rfl, HS.out, HM1.out⟩
  case round =>
    obtain ⟨i, g, hi, rfl, hL, hm⟩ := hrel
    have HM := Hidden.mk hm
    have HL := Hidden.mk hL
    clear hL
    by_cases hin : i < len
    · obtain ⟨b, off, rfl, hbl, hc⟩ := H.out.at_ (by omega) (by decide)
      have c0 := hc i hin 0 .u8 rfl
      have c1 := hc i hin 1 .u16 rfl
      have c2 := hc i hin 2 .u16 rfl
      have c3 := hc i hin 3 .u16 rfl
      clear hc
      rw [show ([IntKind.u8, IntKind.u16, IntKind.u16, IntKind.u16] : List IntKind).length = 4 from rfl] at c0 c1 c2 c3
      have b0 := bounds_u8 c0.2
      have b1 := wf_u16 c1.2
      have b2 := wf_u16 c2.2
      have b3 := wf_u16 c3.2
      obtain ⟨d, hd⟩ := Int.eq_ofNat_of_zero_le b0.1
      obtain ⟨p, hp⟩ := Int.eq_ofNat_of_zero_le b1.1
      obtain ⟨q, hq⟩ := Int.eq_ofNat_of_zero_le b2.1
      obtain ⟨st, hst⟩ := Int.eq_ofNat_of_zero_le b3.1
      have k0 := (Below.cell (p := ⟨b, off + (i * 4 + 0), none⟩) hm.below' hbl).trans c0.1
      have k1 := (Below.cell (p := ⟨b, off + (i * 4 + 1), none⟩) hm.below' hbl).trans c1.1
      have k2 := (Below.cell (p := ⟨b, off + (i * 4 + 2), none⟩) hm.below' hbl).trans c2.1
      have k3 := (Below.cell (p := ⟨b, off + (i * 4 + 3), none⟩) hm.below' hbl).trans c3.1
      rw [hd] at b0 k0
      rw [hp] at b1 k1
      rw [hq] at b2 k2
      rw [hst] at b3 k3
      rw [← Nat.add_assoc] at k0 k1 k2 k3
      rw [Nat.add_zero] at k0
      clear c0 c1 c2 c3 hd hp hq hst
      have bd : d < 256 := by have := b0.2; omega
      have bp : p < 65536 := by have := b1.2; omega
      have bq : q < 65536 := by have := b2.2; omega
      have bs : st < 65536 := by have := b3.2; omega
      have hbl2 : b < wr.heap.size := Nat.lt_of_lt_of_le hbl hm.size
      clear b0 b1 b2 b3 hm hbl
      by_cases hi10 : i < 10
      · have hid : decide (10 ≤ i) = false := decide_eq_false (by omega)
        have HN := Hidden.mk (fun (q' : Nat) (hq' : q' < 65536) (h4 : d % 5 = 4 → q' < p ∨ q' - p < 200 * (2 + st % 9)) (W : World) (hW : Mod [] wr W) => do08 (HL.out.news hW) d p q' st bd bp hq' bs h4)
        clear HL
        by_cases e4 : d % 5 = 4
        · have ez : ((d : Int) % 5 == 4) = true := by simp; omega
          have hs9 : st % 9 < 9 := Nat.mod_lt _ (by decide)
          have hw3 : IntKind.i64.wrap ((st : Int) % 9) = (st : Int) % 9 := IntWalk.i64_in _ (by omega)
          have hw4 : IntKind.i64.wrap (2 + (st : Int) % 9) = 2 + (st : Int) % 9 := IntWalk.i64_in _ (by omega)
          obtain ⟨K, hK⟩ : ∃ K, K = 200 * (2 + st % 9) := ⟨_, rfl⟩
          have hKz : (200 : Int) * (2 + (st : Int) % 9) = (K : Int) := by omega
          have hw5 : IntKind.i64.wrap (K : Int) = K := IntWalk.i64_in _ (by omega)
          have hw6 : IntKind.u16.wrap (K : Int) = K := by rw [IntKind.wrap_u16]; omega
          have hK2 : 400 ≤ K ∧ K ≤ 2000 := by omega
          rw [← hK] at HN
          clear e4 hs9 hK
          by_cases hpq : p < q
          · have hpqd : decide (p < q) = true := decide_eq_true hpq
            have hw7 : IntKind.u16.wrap ((q : Int) - (p : Int)) = (q : Int) - p := by rw [IntKind.wrap_u16]; omega
            by_cases hk : (K : Int) ≤ (q : Int) - p
            · have hkd : decide ((K : Int) ≤ (q : Int) - p) = true := decide_eq_true hk
              have hw8 : IntKind.u16.wrap ((p : Int) + (K : Int)) = (p : Int) + K := by rw [IntKind.wrap_u16]; omega
              have hw9 : IntKind.u16.wrap ((p : Int) + (K : Int) - 1) = ((p + K - 1 : Nat) : Int) := by rw [IntKind.wrap_u16]; omega
              have HC := Hidden.mk (HN.out (p + K - 1) (by omega) (fun _ => by omega) _ ((Mod.refl [] wr).alloc (.cells #[.int .u8 d, .int .u16 p, .int .u16 ((p + K - 1 : Nat) : Int), .int .u16 st] 99)))
              clear HN hk hpq
              go_wp2_with fail
              refine HC.out.mono ?_
              rintro e w5 ⟨v5, rfl, hL5, hm5⟩
              have H5 := Hidden.mk (And.intro hL5 ((HM.out.alloc (.cells #[.int .u8 d, .int .u16 p, .int .u16 ((p + K - 1 : Nat) : Int), .int .u16 st] 99)).trans hm5 (fun x hx => .inr (by rw [HRB.out] at hx; simp only [List.mem_singleton] at hx; subst hx; exact HSB.out))))
              clear hL5 hm5 HC
              go_wp2_with fail
              go_roundw
              case rel => exact ⟨i + 1, _, by omega, by go_num, H5.out.1, H5.out.2⟩
              case measure => simp [intOf]; omega
            · have hkd : decide ((K : Int) ≤ (q : Int) - p) = false := decide_eq_false hk
              have HC := Hidden.mk (HN.out q bq (fun _ => by omega) _ ((Mod.refl [] wr).alloc (.cells #[.int .u8 d, .int .u16 p, .int .u16 q, .int .u16 st] 99)))
              clear HN hk hpq
              go_wp2_with fail
              refine HC.out.mono ?_
              rintro e w5 ⟨v5, rfl, hL5, hm5⟩
              have H5 := Hidden.mk (And.intro hL5 ((HM.out.alloc (.cells #[.int .u8 d, .int .u16 p, .int .u16 q, .int .u16 st] 99)).trans hm5 (fun x hx => .inr (by rw [HRB.out] at hx; simp only [List.mem_singleton] at hx; subst hx; exact HSB.out))))
              clear hL5 hm5 HC
              go_wp2_with fail
              go_roundw
              case rel => exact ⟨i + 1, _, by omega, by go_num, H5.out.1, H5.out.2⟩
              case measure => simp [intOf]; omega
          · have hpqd : decide (p < q) = false := decide_eq_false hpq
            have HC := Hidden.mk (HN.out q bq (fun _ => by omega) _ ((Mod.refl [] wr).alloc (.cells #[.int .u8 d, .int .u16 p, .int .u16 q, .int .u16 st] 99)))
            clear HN hpq
            go_wp2_with fail
            refine HC.out.mono ?_
            rintro e w5 ⟨v5, rfl, hL5, hm5⟩
            have H5 := Hidden.mk (And.intro hL5 ((HM.out.alloc (.cells #[.int .u8 d, .int .u16 p, .int .u16 q, .int .u16 st] 99)).trans hm5 (fun x hx => .inr (by rw [HRB.out] at hx; simp only [List.mem_singleton] at hx; subst hx; exact HSB.out))))
            clear hL5 hm5 HC
            go_wp2_with fail
            go_roundw
            case rel => exact ⟨i + 1, _, by omega, by go_num, H5.out.1, H5.out.2⟩
            case measure => simp [intOf]; omega
        · have ez : ((d : Int) % 5 == 4) = false := by simp; omega
          have HC := Hidden.mk (HN.out q bq (fun h => absurd h e4) _ ((Mod.refl [] wr).alloc (.cells #[.int .u8 d, .int .u16 p, .int .u16 q, .int .u16 st] 99)))
          clear HN e4
          go_wp2_with fail
          refine HC.out.mono ?_
          rintro e w5 ⟨v5, rfl, hL5, hm5⟩
          have H5 := Hidden.mk (And.intro hL5 ((HM.out.alloc (.cells #[.int .u8 d, .int .u16 p, .int .u16 q, .int .u16 st] 99)).trans hm5 (fun x hx => .inr (by rw [HRB.out] at hx; simp only [List.mem_singleton] at hx; subst hx; exact HSB.out))))
          clear hL5 hm5 HC
          go_wp2_with fail
          go_roundw
          case rel => exact ⟨i + 1, _, by omega, by go_num, H5.out.1, H5.out.2⟩
          case measure => simp [intOf]; omega
      · have hid : decide (10 ≤ i) = true := decide_eq_true (by omega)
        go_wp2_with fail
        go_ret2
        exact ⟨_, _, g, rfl, HL.out.news ((Mod.refl [] wr).alloc _), HM.out.alloc _⟩
    · have e : i = len := by omega
      subst e
      clear hm
      go_wp2_with fail
      go_ret2
      exact ⟨_, _, g, rfl, HL.out, HM.out⟩
end Go.Proofs.Ythcjnijggebcaaa
