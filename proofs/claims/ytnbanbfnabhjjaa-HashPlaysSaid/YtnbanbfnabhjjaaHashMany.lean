/- The walk of HashMany. -/
import Derived.Test.YtnbanbfnabhjjaaHashTold
import Derived.Test.YtnbanbfnabhjjaaHolesW
namespace Go.Proofs.Ytnbanbfnabhjjaa
open Go.RowKit
set_option linter.unusedVariables false
set_option linter.unusedSimpArgs false
/-- The i-th key, and the entries of the first ones. -/
def keyN (from_ step : Int) (i : Nat) : HK := keyH ((i : Int) % 3) from_ step i
def entN (from_ step : Int) : Nat → List (HK × Int)
  | 0 => []
  | i + 1 => (keyN from_ step i, (i : Int)) :: entN from_ step i
def dropN (from_ step : Int) (K : Nat) : Nat → List (HK × Int)
  | 0 => entN from_ step K
  | i + 1 => dropL (dropN from_ step K i) (keyN from_ step i)
section
variable {from_ step : Int}
theorem entN_mem {n : Nat} {e : HK × Int} : e ∈ entN from_ step n ↔ ∃ j < n, e = (keyN from_ step j, (j : Int)) := by
  induction n with
  | zero => simp [entN]
  | succ n ih =>
    simp only [entN, List.mem_cons, ih]
    constructor
    · rintro (rfl | ⟨j, hj, rfl⟩)
      · exact ⟨n, by omega, rfl⟩
      · exact ⟨j, by omega, rfl⟩
    · rintro ⟨j, hj, rfl⟩
      rcases Nat.lt_or_ge j n with h | h
      · exact .inr ⟨j, h, rfl⟩
      · obtain rfl : j = n := by omega
        exact .inl rfl
theorem entN_len (n : Nat) : (entN from_ step n).length = n := by induction n <;> simp_all [entN]
theorem keyN_ne (hodd : step % 2 = 1) (h0 : 0 ≤ step) {i j : Nat} (hi : i < 4294967296) (hj : j < 4294967296) (hne : i ≠ j) : keyN from_ step i ≠ keyN from_ step j := fun h => hne (keyH_inj _ _ from_ step hodd h0 i j hi hj (congrArg Prod.snd h))
theorem entN_put (hodd : step % 2 = 1) (h0 : 0 ≤ step) {n : Nat} (hn : n < 4294967296) : lk (entN from_ step n) (keyN from_ step n) = none ∧ putL (entN from_ step n) (keyN from_ step n) n = entN from_ step (n + 1) := by
  have h : ∀ e ∈ entN from_ step n, e.1 ≠ keyN from_ step n := by
    intro e he
    obtain ⟨j, hj, rfl⟩ := entN_mem.1 he
    exact keyN_ne hodd h0 (by omega) hn (by omega)
  refine ⟨lk_none.2 h, ?_⟩
  show _ :: _ = _ :: _
  rw [List.filter_eq_self.2 (fun e he => by simpa using h e he)]
theorem entN_nodup (hodd : step % 2 = 1) (h0 : 0 ≤ step) {n : Nat} (hn : n < 4294967296) : ((entN from_ step n).map (·.1)).Nodup := by
  induction n with
  | zero => simp [entN]
  | succ n ih =>
    simp only [entN, List.map_cons, List.nodup_cons]
    refine ⟨fun h => ?_, ih (by omega)⟩
    obtain ⟨e, he, h⟩ := List.mem_map.1 h
    exact lk_none.1 (entN_put (from_ := from_) hodd h0 (n := n) (by omega)).1 e he h
theorem entN_get (hodd : step % 2 = 1) (h0 : 0 ≤ step) {n : Nat} (hn : n < 4294967296) {j : Nat} (hj : j < n) : lk (entN from_ step n) (keyN from_ step j) = some (j : Int) :=
  lk_some (entN_nodup hodd h0 hn) (e := (keyN from_ step j, (j : Int))) (entN_mem.2 ⟨j, hj, rfl⟩)
theorem entN_nine {n : Nat} (i : Nat) : lk (entN from_ step n) (keyH 9 from_ step i) = none := by
  refine lk_none.2 (fun e he h => ?_)
  obtain ⟨j, hj, rfl⟩ := entN_mem.1 he
  have h1 : ((j : Int) % 3) = 9 := congrArg Prod.fst h
  omega
theorem dropN_mem {K n : Nat} {e : HK × Int} : e ∈ dropN from_ step K n ↔ e ∈ entN from_ step K ∧ ∀ j < n, e.1 ≠ keyN from_ step j := by
  induction n with
  | zero => simp [dropN]
  | succ n ih =>
    simp only [dropN, dropL, List.mem_filter, ih, decide_eq_true_eq]
    constructor
    · rintro ⟨⟨h1, h2⟩, h3⟩
      refine ⟨h1, fun j hj => ?_⟩
      rcases Nat.lt_or_ge j n with h | h
      · exact h2 j h
      · obtain rfl : j = n := by omega
        exact h3
    · rintro ⟨h1, h2⟩
      exact ⟨⟨h1, fun j hj => h2 j (by omega)⟩, h2 n (by omega)⟩
theorem dropN_is (hodd : step % 2 = 1) (h0 : 0 ≤ step) {K n : Nat} (hK : K < 4294967296) (hn : n < K) : (lk (dropN from_ step K n) (keyN from_ step n)).isSome = true := by
  rw [Option.isSome_iff_ne_none]
  intro h
  refine lk_none.1 h (keyN from_ step n, (n : Int)) (dropN_mem.2 ⟨entN_mem.2 ⟨n, hn, rfl⟩, fun j hj => ?_⟩) rfl
  exact keyN_ne hodd h0 (by omega) (by omega) (by omega)
theorem dropN_all (K : Nat) : dropN from_ step K K = [] := by
  refine List.eq_nil_iff_forall_not_mem.2 (fun e he => ?_)
  obtain ⟨h1, h2⟩ := dropN_mem.1 he
  obtain ⟨j, hj, rfl⟩ := entN_mem.1 h1
  exact h2 j hj rfl
end
section
variable {w0 w : World} {tb b : Nat} {pr : Int} {l : List (HK × Int)} {m : Mt}
theorem hm_size (h : HM w0 w tb b pr l m) : Calls Try.prog 71 #[.pointer (some ⟨tb, 0, none⟩)] w fun e w' => e = .returned (.int .i64 ((2 ^ b : Nat) : Int)) ∧ w = w' := by
  obtain ⟨mb, F, h1, _⟩ := h; exact hash_size h1
theorem HM.room (h : HM w0 w tb b pr l m) : 2 * l.length ≤ 2 ^ b ∧ 8 ≤ 2 ^ b ∧ 2 ^ b ≤ 1099511627776 ∧ (l = [] → 2 ^ b = 8) := by
  obtain ⟨mb, F, ⟨pb, seed, L, rfl, h⟩, _⟩ := h
  have h2 := h.tab.N2
  rw [h.tab.len] at h2
  refine ⟨by rw [← h.tab.len]; exact h.room, h2.1, h2.2, fun e => ?_⟩
  rcases h.small with rfl | hs
  · rfl
  · rw [h.tab.len, e] at hs; simp at hs
theorem HM.all (h : HM w0 w tb b pr l m) (hr : RiseE l) (hl : l.length ≤ 1000) (most : Nat) (h1 : 1 ≤ most) (h2 : most ≤ 1000) :
    Calls Try.prog 72 #[.pointer (some ⟨tb, 0, none⟩), .int .i64 most] w fun e w' => ∃ b cap, e = .returned (.slice b (l.take most).length cap) ∧ Row w' 149 3 (.slice b (l.take most).length cap) (l.take most).length ((l.take most).flatMap encT) ∧ Below w.heap.size w w' ∧ ∀ k ∈ rb (.slice b (l.take most).length cap), w.heap.size ≤ k := by
  obtain ⟨mb, F, k1, _⟩ := h
  exact all_any k1 hr hl most h1 h2
end
set_option maxRecDepth 100000 in
set_option maxHeartbeats 4000000 in
theorem hashMany_walk (a0 a1 a2 a3 : Int) (w0 : (Lit.int .u64 a0).wf = true) (w1 : (Lit.int .u64 a1).wf = true) (w2 : (Lit.int .u64 a2).wf = true) (w3 : (Lit.int .u8 a3).wf = true) (w : World) :
    Calls Try.prog 12 #[.int .u64 a0, .int .u64 a1, .int .u64 a2, .int .u8 a3] w fun e w' => e = .returned (.bool true) ∧ Below w.heap.size w w' := by
  have b3 := bounds_u8 w3
  have b2 := bounds_u64 w2
  have hso := or_odd a2 (by omega) (by omega)
  clear w0 w1 w2 w3
  go_enter Try.func12, Try.ntmps12
  go_wp2_with fail
  refine (awake5 w w (Below.refl _ _)).mono ?_; rintro e w1 ⟨rfl, hB⟩
  go_wp2_with fail
  refine (hm_new_nil a0 w _ hB).mono ?_; rintro e w2 ⟨tb, rfl, hH⟩
  obtain ⟨st, hst⟩ : ∃ st, bits .or .u64 a2 1 = st := ⟨_, rfl⟩
  rw [hst] at hso
  obtain ⟨K, hK⟩ : ∃ K : Nat, 1 + a3 = (K : Int) := ⟨(1 + a3).toNat, by omega⟩
  have hK1 : 1 ≤ K := by omega
  have hK2 : K ≤ 256 := by omega
  have HSO := Hidden.mk hso
  have HH := Hidden.mk hH
  clear hso hB hH
  go_wp2_with fail
  clear hst
  go_loopw [28] (fun iv wr => ∃ (i b : Nat) (pr : Int) (m : Mt), i ≤ K ∧ iv = .int .i64 i ∧ HM w wr tb b pr (entN a1 st i) m) (fun iv _ => K - (intOf iv).toNat)
  case atStart => exact ⟨0, 3, 0, _, by omega, rfl, HH.out⟩
  case round =>
    clear HH
    obtain ⟨i, b, pr, m, hi, rfl, hH⟩ := hrel
    by_cases hlt : i < K
    · obtain ⟨hno, hpl⟩ := entN_put (from_ := a1) HSO.out.1 HSO.out.2.1 (n := i) (by omega)
      have hput := hm_put (keyN a1 st i) (i : Int) (keyOK_wrap _ _ (by omega) (by omega)) hH (by rw [entN_len]; omega)
      rw [hno, hpl] at hput
      have h3 : IntKind.u8.wrap ((i : Int) % 3) = (i : Int) % 3 := by rw [IntKind.wrap_u8]; omega
      unfold keyV keyN keyH at hput
      simp only [Option.isNone_none] at hput
      clear hH hno hpl
      go_wp2_with fail
      refine hput.mono ?_
      clear hput
      rintro e w3 ⟨rfl, b', pr', hH, _⟩
      have HR := Hidden.mk hH
      clear hH h3
      go_wp2_with fail
      go_roundw
      case rel => exact ⟨i + 1, _, _, _, by omega, by go_num, HR.out⟩
      case measure => simp [intOf]; omega
    · obtain rfl : K = i := by omega
      have HH := Hidden.mk hH
      clear hH hlt hi
      go_wp2_with fail
      go_loopw [48] (fun iv wr => ∃ (i b : Nat) (pr : Int) (m : Mt), i ≤ K ∧ iv = .int .i64 i ∧ HM w wr tb b pr (entN a1 st K) m) (fun iv _ => K - (intOf iv).toNat)
      case atStart => exact ⟨0, _, _, _, by omega, rfl, HH.out⟩
      case round =>
        clear HH
        obtain ⟨i, b, pr, m, hi, rfl, hH⟩ := hrel
        by_cases hlt : i < K
        · have hg1 := hm_get (keyN a1 st i) (keyOK_wrap _ _ (by omega) (by omega)) hH
          rw [entN_get HSO.out.1 HSO.out.2.1 (by omega) hlt] at hg1
          have hg2 := fun W pr m (h : HM w W tb b pr (entN a1 st K) m) => hm_get (keyH 9 a1 st i) (keyOK_wrap _ _ (by omega) (by omega)) h
          simp only [entN_nine] at hg2
          have h3 : IntKind.u8.wrap ((i : Int) % 3) = (i : Int) % 3 := by rw [IntKind.wrap_u8]; omega
          have h4 : IntKind.u64.wrap (i : Int) = i := by rw [IntKind.wrap_u64]; omega
          unfold keyV keyN keyH at hg1
          unfold keyV keyH at hg2
          simp only [Option.getD_some, Option.isSome_some, Option.getD_none, Option.isSome_none] at hg1 hg2
          clear hH
          go_wp2_with fail
          refine hg1.mono ?_
          clear hg1
          rintro e w3 ⟨rfl, pr', hH, _⟩
          have hg2 := hg2 _ _ _ hH
          clear hH
          go_wp2_with fail
          refine hg2.mono ?_
          clear hg2
          rintro e w4 ⟨rfl, pr'', hH, _⟩
          have HR := Hidden.mk hH
          clear hH
          go_wp2_with fail
          go_roundw
          case rel => exact ⟨i + 1, _, _, _, by omega, by go_num, HR.out⟩
          case measure => simp [intOf]; omega
        · obtain rfl : K = i := by omega
          have hlen := hm_len hH
          have hsize := hm_size hH
          have hroom := hH.room
          rw [entN_len] at hlen hroom
          obtain ⟨S, hS⟩ : ∃ S, 2 ^ b = S := ⟨_, rfl⟩
          rw [hS] at hsize hroom
          obtain ⟨r1, r2, r3, _⟩ := hroom
          have hd1 : decide ((S : Int) < 2 * (K : Int)) = false := by simp; omega
          have hd2 : decide (S < 2 * K) = false := by simp; omega
          have HH := Hidden.mk (And.intro hH hS)
          clear hH hlt hi hS
          go_wp2_with fail
          refine hlen.mono ?_; clear hlen; rintro e w3 ⟨rfl, rfl⟩
          go_wp2_with fail
          refine hsize.mono ?_; clear hsize; rintro e w3 ⟨rfl, rfl⟩
          go_wp2_with fail
          clear hd1 hd2 r1 r2 r3
          go_loopw [102] (fun iv wr => ∃ (i b : Nat) (pr : Int) (m : Mt), i ≤ K ∧ iv = .int .i64 i ∧ HM w wr tb b pr (dropN a1 st K i) m) (fun iv _ => K - (intOf iv).toNat)
          case atStart => exact ⟨0, _, _, _, by omega, rfl, HH.out.1⟩
          case round =>
            clear HH
            obtain ⟨i, b, pr, m, hi, rfl, hH⟩ := hrel
            by_cases hlt : i < K
            · have hdr := hm_drop (keyN a1 st i) (keyOK_wrap _ _ (by omega) (by omega)) hH
              rw [dropN_is HSO.out.1 HSO.out.2.1 (by omega) hlt] at hdr
              rw [show dropL (dropN a1 st K i) (keyN a1 st i) = dropN a1 st K (i + 1) from rfl] at hdr
              have h3 : IntKind.u8.wrap ((i : Int) % 3) = (i : Int) % 3 := by rw [IntKind.wrap_u8]; omega
              unfold keyV keyN keyH at hdr
              clear hH
              go_wp2_with fail
              refine hdr.mono ?_
              clear hdr
              rintro e w3 ⟨rfl, b', pr', hH, _⟩
              have HR := Hidden.mk hH
              clear hH h3
              go_wp2_with fail
              go_roundw
              case rel => exact ⟨i + 1, _, _, _, by omega, by go_num, HR.out⟩
              case measure => simp [intOf]; omega
            · obtain rfl : K = i := by omega
              rw [dropN_all] at hH
              have hlen := hm_len hH
              have hsize := hm_size hH
              have hall := hH.all (by simp [RiseE]) (by simp) 9 (by omega) (by omega)
              rw [hH.room.2.2.2 rfl] at hsize
              have HH := Hidden.mk hH.below
              clear hH hlt hi
              go_wp2_with fail
              refine hlen.mono ?_; clear hlen; rintro e w3 ⟨rfl, rfl⟩
              go_wp2_with fail
              refine hsize.mono ?_; clear hsize; rintro e w3 ⟨rfl, rfl⟩
              go_wp2_with fail
              refine hall.mono ?_; clear hall; rintro e w4 ⟨b4, c4, rfl, _, hB4, _⟩
              have HB4 := Hidden.mk hB4
              clear hB4
              go_wp2_with fail
              go_ret
              exact ⟨rfl, HH.out.trans (HB4.out.mono HH.out.size)⟩
end Go.Proofs.Ytnbanbfnabhjjaa
