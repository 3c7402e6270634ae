/- sift.Less's sequence. -/
import Derived.Test.YtfioekkegihkoaaSiftH
namespace Go.Proofs.Ytfioekkegihkoaa
open Go.RowKit Go.Shelf
set_option linter.unusedVariables false
set_option linter.unusedSimpArgs false
/-- What the first list has alone. -/
def lessL (a b : List Int) : List Int := a.filter (fun x => !decide (x ∈ b))
set_option maxRecDepth 100000 in
set_option maxHeartbeats 2000000 in
theorem less_it {w : World} {sa sb : Value} {a b : List Int} {Ra Rb : List Nat} {Pa Pb : Nat} (ha : SeqL w sa a Ra) (hb : SeqL w sb b Rb) (ca : w.cell? ⟨Pa, 0, none⟩ = some sa) (cb : w.cell? ⟨Pb, 0, none⟩ = some sb)
    (hla : a.length ≤ 1000000) (hlb : b.length ≤ 1000000) (sa' : a.Pairwise (· < ·)) (sb' : b.Pairwise (· < ·)) :
    ItC Try.prog 73 #[.pointer (some ⟨Pb, 0, none⟩), .pointer (some ⟨Pa, 0, none⟩)] encK (fun xs _ => xs = lessL a b) (fun pre _ => pre <+: lessL a b) (lessL a b).length (Pb :: Pa :: (Ra ++ Rb)) [] w := by
  intro ly J Jx C T W hW hT hC hJ hJx hY h0
  have hPa : Pa < w.heap.size := by simpa using World.block_lt_of_cell? w _ ca
  have hPb : Pb < w.heap.size := by simpa using World.block_lt_of_cell? w _ cb
  have ca1 : W.cell? ⟨Pa, 0, none⟩ = some sa := (World.cell?_of_block (hW.block Pa hPa (fun h => hT _ h (by simp)))).trans ca
  have cb1 : W.cell? ⟨Pb, 0, none⟩ = some sb := (World.cell?_of_block (hW.block Pb hPb (fun h => hT _ h (by simp)))).trans cb
  have ha1 := Hidden.mk (ha.mod hW (fun q hq hR => hT q hq (by simp [hR])))
  have hb1 := hb.mod hW (fun q hq hR => hT q hq (by simp [hR]))
  have HK := Hidden.mk (sift_keys hb1 hlb)
  have HV := Hidden.mk (And.intro ha.val hb.val)
  have HH := Hidden.mk (And.intro hC (And.intro hJ (And.intro hJx (And.intro hY (And.intro h0 (And.intro sa' sb'))))))
  have HPW : Hidden (Pa < W.heap.size) := ⟨by have := hW.size; omega⟩
  clear ha hb ca cb hb1 hC hJ hJx hY h0 hW hT hPa hPb sa' sb'
  have cb2 : ∀ W', Mod [] W W' → W'.cell? ⟨Pa, 0, none⟩ = some sa := fun W' h => (World.cell?_of_block (h.block Pa HPW.out (by simp))).trans ca1
  have HCA := Hidden.mk cb2
  clear cb2 ca1
  go_enter Try.func73, Try.ntmps73
  go_wp2_with fail
  refine HK.out.mono ?_
  rintro e w1 ⟨v, rfl, hv, hm, hge⟩
  obtain ⟨pa, cap, rfl, -⟩ := hv.slice_
  obtain ⟨n0, hn0⟩ : ∃ n0, b.length = n0 := ⟨_, rfl⟩
  rw [hn0] at hv hge ⊢
  have ca3 := HCA.out _ (hm.alloc (.cells #[.slice pa n0 cap] 23))
  have H1 := Hidden.mk (And.intro hv (And.intro hm hge))
  clear hv hm hge hn0 cb1
  go_wp2_with fail
  refine (told_make HV.out.1 _ _).mono ?_
  rintro e w3 ⟨rfl, hw3⟩
  have HW3 := Hidden.mk hw3
  clear hw3 HK HCA ca3
  go_wp2_with fail
  have hm2 : Mod [] w1 (w1.alloc (.cells #[.slice pa n0 cap] 23)) := (Mod.refl [] w1).alloc _
  have hs2 : (w1.alloc (.cells #[.slice pa n0 cap] 23)).heap.size = w1.heap.size + 1 := by simp
  have hB2 : Blk (w1.alloc (.cells #[.slice pa n0 cap] 23)) w1.heap.size 23 #[.slice pa n0 cap] := Blk.new _ _ _
  obtain ⟨w2, hw2⟩ : ∃ w2, w1.alloc (.cells #[.slice pa n0 cap] 23) = w2 := ⟨_, rfl⟩
  have HW := HW3.out
  rw [hw2] at hm2 hs2 hB2 HW
  have hm3 : Mod [] w2 w3 := by rw [← HW]; exact ((Mod.refl [] w2).alloc _).alloc _
  have hs3 : w3.heap.size = w2.heap.size + 2 := by rw [← HW]; simp
  have hm13 : Mod [] w1 w3 := hm2.trans hm3 (by simp)
  have hm03 : Mod [] W w3 := H1.out.2.1.trans hm13 (by simp)
  have c1 : w3.cell? ⟨w2.heap.size, 0, none⟩ = some sa := by rw [← HW]; exact ((Blk.new w2 43 #[sa]).alloc _).cell 0
  have c2 : w3.cell? ⟨w2.heap.size + 1, 0, none⟩ = some (.func (.func 74) #[] #[.pointer (some ⟨w1.heap.size, 0, none⟩)]) := by rw [← HW]; exact (Blk.new' (w := w2.alloc (.cells #[sa] 43)) (by simp) 32 #[.func (.func 74) #[] #[.pointer (some ⟨w1.heap.size, 0, none⟩)]]).cell 0
  rw [hs2] at c1 c2
  have hrl := rbl_lt H1.out.1
  have hrg : ∀ q ∈ rbl (.slice pa n0 cap) b, W.heap.size ≤ q := fun q hq => by
    unfold rbl at hq
    split at hq
    · simp at hq
    · exact H1.out.2.2 q hq
  have hsz := H1.out.2.1.size
  have hBo : w1.heap.size ∉ rbl (.slice pa n0 cap) b := fun h => by have := hrl _ h; omega
  have hlt : ∀ q ∈ w1.heap.size :: rbl (.slice pa n0 cap) b, W.heap.size ≤ q ∧ q < w2.heap.size := fun q hq => by
    rcases List.mem_cons.1 hq with rfl | hq
    · exact ⟨by omega, by omega⟩
    · exact ⟨hrg q hq, by have := hrl q hq; omega⟩
  refine (told_call (B0 := W.heap.size) (C := C) (D := w1.heap.size :: rbl (.slice pa n0 cap) b) (f := fun x => !decide (x ∈ b)) (Inv := LessInv w1.heap.size (rbl (.slice pa n0 cap) b) b a) (J := J) (Jx := Jx)
    (ha1.out.news hm03) hla c1 c2 (enters_of Try.func74 (by kernel_rfl) rfl) ?_ ?_ ?_ ?_ (by omega) ?_ HH.out.2.1 HH.out.2.2.1 HH.out.2.2.2.1 ?_).mono ?_
  · exact ⟨_, 0, hB2.mod hm3 (by simp), H1.out.1.news hm13, fun b hb => hb, fun i x _ _ => Nat.zero_le _⟩
  · rintro j A B S ⟨v, r, h1, h2, h3, h4⟩ hm hS
    exact ⟨v, r, h1.mod hm (fun h => hS _ h (by simp)), h2.modl hm (fun b hb h => hS _ h (by simp [h3 b hb])), h3, h4⟩
  · intro j x A hx hI
    refine (less_is HH.out.2.2.2.2.2.2 hlb HH.out.2.2.2.2.2.1 hx hI hBo).mono ?_
    rintro e A' ⟨he, h2, h3⟩
    exact ⟨he, h2, h3.mono (fun q hq => .inl (by simp at hq; simp [hq]))⟩
  · intro q hq
    refine ⟨(hlt q hq).1, by have := (hlt q hq).2; omega, fun h => ?_, by have := (hlt q hq).2; omega⟩
    have := (HH.out.1 q h).1
    have := (hlt q hq).1
    omega
  · intro q hq
    have := (HH.out.1 q hq).1
    exact ⟨by omega, by omega⟩
  · exact HH.out.2.1 _ _ _ _ [] HH.out.2.2.2.2.1 hm03 (by simp)
  · rintro e w4 ⟨⟨v, rfl⟩, C', hC', hor⟩
    have HF := Hidden.mk (And.intro hC' hor)
    clear hC' hor
    go_wp2_with fail
    go_end0
    refine ⟨⟨_, rfl⟩, C', HF.out.1, HF.out.2.imp (fun h => ⟨_, rfl, h⟩) (fun h => h)⟩
end Go.Proofs.Ytfioekkegihkoaa
