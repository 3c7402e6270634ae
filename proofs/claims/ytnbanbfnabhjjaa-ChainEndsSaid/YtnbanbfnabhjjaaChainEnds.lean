/- The walk of ChainEnds. -/
import Derived.Test.YtnbanbfnabhjjaaChainE
import Derived.Test.YtnbanbfnabhjjaaArgs2
import Derived.IntWalk
namespace Go.Proofs.Ytnbanbfnabhjjaa
open Go.RowKit
set_option linter.unusedVariables false
set_option linter.unusedSimpArgs false
theorem quiet_drewN {P : Program} {f : FuncId} {args : Array Value} {w : World} {n : Nat} {v : Value}
    (h : Calls P f args (w.drewN n) fun e w' => e = .returned v ∧ w.drewN n = w') : Calls P f args (w.drewN n) fun e w' => e = .returned v ∧ ∃ m, w' = w.drewN m :=
  h.mono fun e w' h => ⟨h.1, n, h.2.symm⟩
theorem quiet_same {P : Program} {f : FuncId} {args : Array Value} {w : World} {v : Value} (h : Calls P f args w fun e w' => e = .returned v ∧ w = w') : Calls P f args w fun e w' => e = .returned v ∧ w' = w :=
  h.mono fun _ _ ⟨h1, h2⟩ => ⟨h1, h2.symm⟩
theorem BoolRow.at_ {w : World} {a : Option Addr} {len cap : Nat} {z : Nat → Bool} (h : BoolRow w a len cap z) {i : Nat} (hi : i < len) : ∃ b off, a = some ⟨b, off, none⟩ ∧ b < w.heap.size ∧ w.cell? ⟨b, off + i, none⟩ = some (.bool (z i)) := by
  rcases h with ⟨_, rfl, _⟩ | ⟨x, rfl, _, _, hc⟩
  · omega
  · obtain ⟨b, off, spot⟩ := x
    have h0 := hc 0 (by omega)
    have hs : spot = none := by
      rw [show (⟨b, off, spot⟩ : Addr).add 0 = ⟨b, off, spot⟩ from rfl] at h0
      unfold World.cell? at h0
      cases spot with
      | none => rfl
      | some q => simp only at h0; split at h0 <;> simp at h0
    subst hs
    have ha : ∀ j, (⟨b, off, none⟩ : Addr).add j = ⟨b, off + j, none⟩ := by intro j; unfold Addr.add; split <;> simp_all
    have h1 := hc i hi
    rw [ha] at h1
    exact ⟨b, off, rfl, World.block_lt_of_cell? w _ h1, h1⟩
theorem BoolRow.le {w : World} {a : Option Addr} {len cap : Nat} {z : Nat → Bool} (h : BoolRow w a len cap z) : len ≤ cap ∧ cap ≤ 9223372036854775807 := by
  rcases h with ⟨_, rfl, rfl⟩ | ⟨x, _, h1, h2, _⟩
  · omega
  · unfold maxLen at h2; omega
theorem ISl.tail {k : IntKind} {w : World} {b off n cap : Nat} {x : Int} {l : List Int} (h : ISl k w (.slice (some ⟨b, off, none⟩) n cap) (x :: l)) (off' : Nat) (ho : off' = off + 1 ∨ l = []) : ISl k w (.slice (some ⟨b, off', none⟩) (n - 1) (cap - 1)) l := by
  obtain ⟨a, cap', he, h1, h2, h3, h4⟩ := h
  injection he with e1 e2 e3; subst e1 e2 e3
  simp only [List.length_cons] at h1
  refine ⟨some ⟨b, off', none⟩, cap - 1, by simp, by omega, by omega, by simp, ?_⟩
  by_cases hl : l = []
  · exact .inl hl
  · refine .inr ⟨b, off', rfl, fun i y hy => ?_⟩
    rcases ho with rfl | ho
    · rcases h4 with h4 | ⟨b', off2, hb, h5⟩
      · cases h4
      · injection hb with hb; injection hb with hb1 hb2; subst hb1 hb2
        have := h5 (i + 1) y (by simpa using hy)
        rw [show off + 1 + i = off + (i + 1) from by omega]; exact this
    · exact absurd ho hl
theorem ISl.init {k : IntKind} {w : World} {b off n cap : Nat} {x : Int} {l : List Int} (h : ISl k w (.slice (some ⟨b, off, none⟩) n cap) (l ++ [x])) : ISl k w (.slice (some ⟨b, off, none⟩) (n - 1) cap) l := by
  obtain ⟨a, cap', he, h1, h2, h3, h4⟩ := h
  injection he with e1 e2 e3; subst e1 e2 e3
  simp only [List.length_append, List.length_cons, List.length_nil] at h1
  refine ⟨some ⟨b, off, none⟩, cap, by simp, by omega, by omega, by simp, ?_⟩
  rcases h4 with h4 | ⟨b', off2, hb, h5⟩
  · simp at h4
  · injection hb with hb; injection hb with hb1 hb2; subst hb1 hb2
    refine .inr ⟨b, off, rfl, fun i y hy => h5 i y ?_⟩
    have hi := (List.getElem?_eq_some_iff.1 hy).1
    rw [List.getElem?_append_left hi]; exact hy
/-- What the loop knows. -/
def EndsRel (w w2 wr : World) (cb N : Nat) (v iv : Value) : Prop := ∃ (n i : Nat) (b : Option Addr) (c : Nat) (ks : List Int) (L : CL) (fr : Bool), v = .slice b n c ∧ iv = .int .i64 i ∧ i + n ≤ 40 ∧ n ≤ c ∧ c ≤ 9223372036854775807 ∧ ks.length = n ∧ ISl .u64 w2 (.slice b n c) ks ∧ (∀ x ∈ rb (.slice b n c), x < w2.heap.size) ∧ CM w2 wr cb 100 fr L ∧ pkeys L = ks ∧ n ≤ N
def lenOf (v : Value) : Nat := match v with
  | .slice _ n _ => n
  | _ => 0
theorem lenOf_slice (b : Option Addr) (n c : Nat) : lenOf (.slice b n c) = n := rfl

set_option maxRecDepth 100000 in
set_option maxHeartbeats 4000000 in
theorem chainEnds_walk (a0 : Option Addr) (len0 cap0 : Nat) (z0 : List Int) (a1 : Option Addr) (len1 cap1 : Nat) (z1 : Nat → Bool) (w : World) (w0 : IntRow .u64 w a0 len0 cap0 z0) (y0 : len0 * 8 ≤ 140737488351232) (w1 : BoolRow w a1 len1 cap1 z1) :
    Calls Try.prog 7 #[.slice a0 len0 cap0, .slice a1 len1 cap1] w fun e w' => e = .returned (.bool true) ∧ Below w.heap.size w w' := by
  have hle0 := w0.le
  have hle1 := w1.le
  obtain ⟨hl0, hn0⟩ := w0.isl
  have hrb0 : len0 = 0 ∨ ∀ b ∈ rb (.slice a0 len0 cap0), b < w.heap.size := by
    rcases Nat.eq_zero_or_pos len0 with h | h
    · exact .inl h
    · exact .inr (w0.rblt h)
  have H1 := Hidden.mk w1
  clear w0 w1
  generalize z0.take len0 = l at *
  have HL := Hidden.mk (And.intro hl0 (And.intro hn0 hrb0))
  clear hl0 hrb0 hn0
  go_enter Try.func7, Try.ntmps7
  go_wp2_with fail
  refine (awake13 w).mono ?_; rintro e wa ⟨rfl, hB⟩
  have hla : ISl .u64 wa (.slice a0 len0 cap0) l := by
    obtain ⟨h1, h2, h3⟩ := HL.out
    rcases h3 with h3 | h3
    · obtain rfl : l = [] := List.eq_nil_of_length_eq_zero (by omega)
      obtain ⟨a, c, e, q1, q2, q3, _⟩ := h1
      exact ⟨a, c, e, q1, q2, q3, .inl rfl⟩
    · exact h1.below hB h3
  have hwd := words_call 40 (by omega) l _ wa hla
  clear hla
  have HB := Hidden.mk hB
  clear hB
  go_wp2_with fail
  refine hwd.mono ?_; clear hwd; rintro e w2 ⟨v, rfl, hW⟩
  have hB2 : Below w.heap.size w w2 := HB.out.trans (hW.mod.below HB.out.size (by simp))
  obtain ⟨hlen, hv⟩ := hW.isl
  have hvlt : ∀ b ∈ rb v, b < w2.heap.size := fun b hb => Row.lt hW.row hb
  generalize hks : l.take 40 = ks at *
  have hks40 : ks.length ≤ 40 := by rw [← hks]; simp; omega
  obtain ⟨a, cap, rfl, k1, k2⟩ := hv.slice_
  generalize hn : ks.length = n at *
  have HW := Hidden.mk (And.intro hv (And.intro hvlt (And.intro hB2 hn)))
  clear hW hlen hv hvlt hB2 hn hks HB HL
  go_wp2_with fail
  refine (cm_new (w0 := w2) 100 (Below.refl _ _) (by omega)).mono ?_; rintro e w3 ⟨cb, rfl, hS⟩
  have hline := cm_line w2 cb 100 ks _ w3 hS HW.out.1 HW.out.2.1 (by rw [HW.out.2.2.2]; omega)
  unfold LinePost at hline
  rw [HW.out.2.2.2] at hline
  rw [show min 100 n = n from by omega] at hline
  clear hS
  go_wp2_with fail
  refine hline.mono ?_; clear hline; rintro e w4 ⟨rfl, L, hS, hLk⟩
  rw [List.take_of_length_le (by have := HW.out.2.2.2; omega)] at hLk
  have HS := Hidden.mk (And.intro hS hLk)
  clear hS hLk
  go_wp2_with fail
  go_loopw [0, 7] (fun v iv wr => EndsRel w w2 wr cb n v iv) (fun v _ _ => lenOf v)
  case atStart => exact ⟨n, 0, a, cap, ks, L, true, rfl, rfl, by omega, k1, k2, HW.out.2.2.2, HW.out.1, HW.out.2.1, HS.out.1, HS.out.2, by omega⟩
  case round =>
    obtain ⟨m, i, b, c, kl, L, fr, rfl, rfl, hi40, hmc, hcc, hkl, hv, hvlt, hS, hLk, hmn⟩ := hrel
    rcases Nat.eq_zero_or_pos m with rfl | hm
    · obtain rfl : kl = [] := List.eq_nil_of_length_eq_zero hkl
      obtain rfl : L = [] := by unfold pkeys at hLk; simpa using hLk
      have hf := cm_first hS
      have hl := cm_last hS
      have hn := cm_len hS
      have HE := Hidden.mk hS
      clear hS hv hLk hkl
      simp only [hdC, lsC, List.length_nil] at hf hl hn
      go_wp2_with fail
      refine hf.mono ?_; clear hf; rintro e w' ⟨rfl, rfl⟩
      go_wp2_with fail
      refine hl.mono ?_; clear hl; rintro e w' ⟨rfl, rfl⟩
      go_wp2_with fail
      refine hn.mono ?_; clear hn; rintro e w' ⟨rfl, rfl⟩
      go_wp2_with fail
      go_ret
      exact ⟨rfl, HW.out.2.2.1.trans (HE.out.below.mono HW.out.2.2.1.size)⟩
    · have hne : L ≠ [] := by rintro rfl; simp [pkeys] at hLk; subst hLk; simp at hkl; omega
      obtain ⟨e1, B1, hL1⟩ : ∃ e1 B1, L = e1 :: B1 := by cases L with
        | nil => exact absurd rfl hne
        | cons e1 B1 => exact ⟨e1, B1, rfl⟩
      obtain ⟨A2, e2, hL2⟩ : ∃ A2 e2, L = A2 ++ [e2] := ⟨L.dropLast, L.getLast hne, (List.dropLast_concat_getLast hne).symm⟩
      have hk1 : kl = e1.2 :: pkeys B1 := by rw [← hLk, hL1]; rfl
      have hk2 : kl = pkeys A2 ++ [e2.2] := by rw [← hLk, hL2]; simp [pkeys]
      have hA2 : (pkeys A2).length = m - 1 := by have := congrArg List.length hk2; simp at this; omega
      have hB1l : (pkeys B1).length = m - 1 := by have := congrArg List.length hk1; simp at this; omega
      obtain ⟨g, off, x, rfl, hg, hx, hc⟩ := hv.get (i := 0) hm
      obtain rfl : x = e1.2 := by rw [hk1] at hx; simpa using hx.symm
      have hc0 : wr.cell? ⟨g, off, none⟩ = some (.int .u64 e1.2) := (hS.below.cell (p := ⟨g, off, none⟩) hg).trans (by simpa using hc)
      obtain ⟨g', off', x, hgg, _, hx2, hc2⟩ := hv.get (i := m - 1) (by omega)
      injection hgg with hgg; injection hgg with hg1 hg2; subst hg1 hg2
      obtain rfl : x = e2.2 := by rw [hk2, List.getElem?_append_right (by omega), hA2] at hx2; simpa using hx2.symm
      have hc1 : wr.cell? ⟨g, off + (m - 1), none⟩ = some (.int .u64 e2.2) := (hS.below.cell (p := ⟨g, off + (m - 1), none⟩) hg).trans hc2
      have hm0 : ∀ {W}, Mod [] wr W → CM w2 W cb 100 fr L := fun hW => hS.mod0 hW
      have hfi := fun W (hW : Mod [] wr W) => cm_first (hm0 hW)
      have hla := fun W (hW : Mod [] wr W) => cm_last (hm0 hW)
      simp only [show hdC L (-1) = (e1.1 : Int) from by rw [hL1]; rfl] at hfi
      simp only [show lsC L (-1) = (e2.1 : Int) from by rw [hL2, lsC_snoc]] at hla
      have hkey1 := fun W (hW : Mod [] wr W) => cm_key (A := []) (a := e1.1) (k := e1.2) (B := B1) (w0 := w2) (w := W) (cb := cb) (limit := 100) (fr := fr) (by rw [hL1] at hm0; exact hm0 hW)
      have hkey2 := fun W (hW : Mod [] wr W) => cm_key (A := A2) (a := e2.1) (k := e2.2) (B := []) (w0 := w2) (w := W) (cb := cb) (limit := 100) (fr := fr) (by rw [hL2] at hm0; exact hm0 hW)
      have hBr : Below w.heap.size w wr := HW.out.2.2.1.trans (hS.below.mono HW.out.2.2.1.size)
      have hbo : Hidden (∀ j, j < len1 → ∃ b off, a1 = some ⟨b, off, none⟩ ∧ wr.cell? ⟨b, off + j, none⟩ = some (.bool (z1 j))) := ⟨fun j hj => by
        obtain ⟨b, off, h1, h2, h3⟩ := H1.out.at_ hj
        exact ⟨b, off, h1, (hBr.cell (p := ⟨b, off + j, none⟩) h2).trans h3⟩⟩
      have hp1 := Hidden.mk hk1
      have hp2 := Hidden.mk hk2
      have HV := Hidden.mk (And.intro hv (And.intro hvlt (And.intro hA2 hB1l)))
      obtain ⟨p1, x1⟩ := e1
      obtain ⟨p2, x2⟩ := e2
      simp only at hc0 hc1 hfi hla hkey1 hkey2
      clear hm0 hS hLk hL1 hL2 hk1 hk2 hA2 hB1l hv hvlt hx hx2 hc hc2 hBr hkl hne
      have hw1 : IntKind.i64.wrap ((m : Int) - 1) = (m : Int) - 1 := IntWalk.i64_in _ (by omega)
      have hw2 : 0 ≤ (m : Int) - 1 := by omega
      have hw3 : ((m : Int) - 1).toNat = m - 1 := by omega
      have hm1 : 1 ≤ (m : Int) := by omega
      go_wp2_with fail
      go_quiet ((go_at_call 45; exact quiet_drewN (hla _ ((Mod.refl [] wr).drewN _))))
      clear hla hw1
      by_cases hfr1 : i < len1
      · obtain ⟨bb, boff, rfl, hbc⟩ := hbo.out i hfr1
        have hbc : (wr.drewN nq).cell? ⟨bb, boff + i, none⟩ = some (.bool (z1 i)) := by simpa using hbc
        have hdl : decide (i < len1) = true := by simpa using hfr1
        generalize z1 i = fb at *
        cases fb with
        | false =>
          go_wp2_with fail
          refine (hkey2 _ ((Mod.refl [] wr).drewN _)).mono ?_; clear hkey1 hkey2; rintro e w5 ⟨rfl, hS5⟩
          have hdrop := cm_drop hS5
          clear hS5
          go_wp2_with fail
          refine hdrop.mono ?_; clear hdrop; rintro e w6 ⟨rfl, hS6⟩
          have HS6 := Hidden.mk hS6
          clear hS6
          go_wp2_with fail
          go_roundw
          case rel => exact ⟨m - 1, i + 1, some ⟨g, off, none⟩, c, pkeys A2, A2, false, rfl, by go_num, by omega, by omega, by omega, HV.out.2.2.1, ISl.init (hp2.out ▸ HV.out.1), HV.out.2.1, by simpa using HS6.out, rfl, by omega⟩
          case measure => simp [lenOf_slice]; omega
        | true =>
          have z0 : (wr.drewN nq).cell? ⟨g, off, none⟩ = some (.int .u64 x1) := by simpa using hc0
          have hMz : Mod [] wr (wr.drewN nq) := (Mod.refl [] wr).drewN nq
          have hfz := fun n => hfi ((wr.drewN nq).drewN n) (hMz.drewN n)
          have hkz := fun W (hW : Mod [] (wr.drewN nq) W) => hkey1 W (hMz.trans hW (by simp))
          clear hkey1 hkey2 hfi hc0 hc1 hbo
          generalize wr.drewN nq = wz at *
          clear hMz
          go_wp2_with fail
          go_quiet ((go_at_call 46; exact quiet_drewN (hfz _)))
          clear hfz
          rcases (show c = 1 ∨ 1 < c by omega) with rfl | hc1
          · obtain rfl : m = 1 := by omega
            go_wp2_with fail
            refine (hkz _ ((Mod.refl [] wz).drewN _)).mono ?_; clear hkz; rintro e w5 ⟨rfl, hS5⟩
            have hdrop := cm_drop hS5
            clear hS5
            go_wp2_with fail
            refine hdrop.mono ?_; clear hdrop; rintro e w6 ⟨rfl, hS6⟩
            have HS6 := Hidden.mk hS6
            clear hS6
            go_wp2_with fail
            go_roundw
            case rel => exact ⟨0, i + 1, some ⟨g, off, none⟩, 0, pkeys B1, B1, false, rfl, by go_num, by omega, by omega, by omega, HV.out.2.2.2, ISl.tail (hp1.out ▸ HV.out.1) _ (.inr (List.map_eq_nil_iff.2 (List.eq_nil_of_length_eq_zero (by have := HV.out.2.2.2; simpa [pkeys] using this)))), HV.out.2.1, by simpa using HS6.out, rfl, by omega⟩
            case measure => simp [lenOf_slice]
          · skip
            go_wp2_with fail
            refine (hkz _ ((Mod.refl [] wz).drewN _)).mono ?_; clear hkz; rintro e w5 ⟨rfl, hS5⟩
            have hdrop := cm_drop hS5
            clear hS5
            go_wp2_with fail
            refine hdrop.mono ?_; clear hdrop; rintro e w6 ⟨rfl, hS6⟩
            have HS6 := Hidden.mk hS6
            clear hS6
            go_wp2_with fail
            go_roundw
            case rel => exact ⟨m - 1, i + 1, some ⟨g, off + 1, none⟩, c - 1, pkeys B1, B1, false, rfl, by go_num, by omega, by omega, by omega, HV.out.2.2.2, ISl.tail (hp1.out ▸ HV.out.1) _ (.inl rfl), HV.out.2.1, by simpa using HS6.out, rfl, by omega⟩
            case measure => simp [lenOf_slice]; omega
      · have hdl : decide (i < len1) = false := by simpa using hfr1
        go_wp2_with fail
        refine (hkey2 _ ((Mod.refl [] wr).drewN _)).mono ?_; clear hkey1 hkey2; rintro e w5 ⟨rfl, hS5⟩
        have hdrop := cm_drop hS5
        clear hS5
        go_wp2_with fail
        refine hdrop.mono ?_; clear hdrop; rintro e w6 ⟨rfl, hS6⟩
        have HS6 := Hidden.mk hS6
        clear hS6
        go_wp2_with fail
        go_roundw
        case rel => exact ⟨m - 1, i + 1, some ⟨g, off, none⟩, c, pkeys A2, A2, false, rfl, by go_num, by omega, by omega, by omega, HV.out.2.2.1, ISl.init (hp2.out ▸ HV.out.1), HV.out.2.1, by simpa using HS6.out, rfl, by omega⟩
        case measure => simp [lenOf_slice]; omega
end Go.Proofs.Ytnbanbfnabhjjaa
