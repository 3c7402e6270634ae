/- law05.do: an act on the table and on the document's list. -/
import Derived.Test.YtnbanbfnabhjjaaHashDo
namespace Go.Proofs.Ytnbanbfnabhjjaa
open Go.RowKit
set_option linter.unusedVariables false
set_option linter.unusedSimpArgs false
def actE (l : EL) (dd : Int) (k : HK) (v : Int) : EL := if dd % 4 = 3 then l else if dd % 4 = 2 then dropL l k else putE l k v
theorem actE_len (l : EL) (dd : Int) (k : HK) (v : Int) : (actE l dd k v).length ≤ l.length + 1 := by
  unfold actE
  split
  · omega
  · split
    · have := dropL_len_le l k; omega
    · rw [putE_len]; split <;> omega
/-- A table with its meter, and the document's list, each apart from the other. -/
structure Pair5 (w : World) (tb mb b : Nat) (F : List Nat) (pr : Int) (l : EL) (m : Mt) (v : Value) : Prop where
  tab : TabAt w tb mb F b pr l
  met : MeterAt w mb m
  d1 : mb ∉ F
  row : ERow w v l
  d2 : ∀ k ∈ rb v, k ∉ F ∧ k ≠ mb
  rise : RiseE l
theorem Pair5.mod0 {w w' : World} {tb mb b : Nat} {F : List Nat} {pr : Int} {l : EL} {m : Mt} {v : Value} (h : Pair5 w tb mb b F pr l m v) (hm : Mod [] w w') : Pair5 w' tb mb b F pr l m v :=
  ⟨h.tab.mod hm (by simp), h.met.mod hm (by simp), h.d1, h.row.mod hm (by simp), h.d2, h.rise⟩
/-- What do leaves. -/
def Did (w : World) (tb mb : Nat) (F : List Nat) (v : Value) (l' : EL) (m' : Mt) (e : Ending) (w' : World) : Prop :=
  ∃ v' F' b' pr', e = .returned (.tuple #[v', .bool true]) ∧ Pair5 w' tb mb b' F' pr' l' m' v' ∧ Mod (mb :: F) w w' ∧ (∀ k ∈ F', k ∈ F ∨ w.heap.size ≤ k) ∧ (∀ k ∈ rb v', k ∈ rb v ∨ w.heap.size ≤ k)
/-- Behind both. -/
theorem did_mk {w w1 w2 w3 : World} {tb mb b b' : Nat} {F F' : List Nat} {pr pr' : Int} {l l' : EL} {m m' : Mt} {v v' : Value} (h : Pair5 w tb mb b F pr l m v) (hm1 : Mod [] w w1) (hR : ERow w1 v' l') (hge : ∀ k ∈ rb v', k ∈ rb v ∨ w.heap.size ≤ k)
    (hm2 : Mod [] w1 w2) (hT : TabAt w3 tb mb F' b' pr' l') (hM : MeterAt w3 mb m') (hmod : Mod (mb :: F) w2 w3) (hF : ∀ q ∈ F', q ∈ F ∨ w2.heap.size ≤ q) (hr : RiseE l') :
    Did w tb mb F v l' m' (.returned (.tuple #[v', .bool true])) w3 := by
  have hs1 := hm1.size
  have hs2 := hm2.size
  have hlt := h.met.lt
  have hRl : ∀ k ∈ rb v', k < w1.heap.size := fun k hk => Row.lt hR hk
  have hd : ∀ k ∈ rb v', k ∉ F ∧ k ≠ mb := fun k hk => by
    rcases hge k hk with h1 | h1
    · exact h.d2 k h1
    · exact ⟨fun h2 => by have := h.tab.lt _ h2; omega, by omega⟩
  refine ⟨v', F', b', pr', rfl, ⟨hT, hM, ?_, ?_, ?_, hr⟩, (((hm1.trans hm2 (by simp)).mono (T := mb :: F) (by simp)).trans hmod (fun x hx => .inl hx)), fun k hk => (hF k hk).imp id (fun h => by omega), hge⟩
  · intro hk
    rcases hF mb hk with h1 | h1
    · exact h.d1 h1
    · omega
  · exact (hR.mod hm2 (by simp)).mod hmod (fun k hk hk' => by
      rcases List.mem_cons.1 hk' with h1 | h1
      · exact (hd k hk).2 h1
      · exact (hd k hk).1 h1)
  · intro k hk
    refine ⟨fun h1 => ?_, (hd k hk).2⟩
    rcases hF k h1 with h2 | h2
    · exact (hd k hk).1 h2
    · have := hRl k hk; omega
set_option maxRecDepth 100000 in
set_option maxHeartbeats 2000000 in
theorem do_get {w : World} {tb mb b : Nat} {F : List Nat} {pr : Int} {l : EL} {m : Mt} {v : Value} (dd lv px vv : Int) (h : Pair5 w tb mb b F pr l m v) (hl : l.length ≤ 1000) (hdd : 0 ≤ dd ∧ dd ≤ 255) (hk : KeyOK (lv, px)) (hc : dd % 4 = 3) :
    Calls Try.prog 73 #[.pointer (some ⟨tb, 0, none⟩), v, .agg #[.int .u8 dd, .int .u8 lv, .int .u64 px, .int .u64 vv]] w (Did w tb mb F v (l) (m.call)) := by
  have hbk := Blk.new w 104 #[.int .u8 dd, .int .u8 lv, .int .u64 px, .int .u64 vv]
  have hm0 := (Mod.refl [] w).alloc (.cells #[.int .u8 dd, .int .u8 lv, .int .u64 px, .int .u64 vv] 104)
  have hdoc := ref05_get l v dd lv px vv _ (h.row.mod hm0 (by simp)) hl h.rise hdd hc
  have hsz := fun W (hW : Mod [] w W) => hash_size (h.tab.mod hW (by simp))
  have hop := fun W (hW : Mod [] w W) => hash_get (lv, px) hk (h.tab.mod hW (by simp)) (h.met.mod hW (by simp)) h.d1
  have hpb := fun W F b pr l (hW : TabAt W tb mb F b pr l) => hash_probes hW
  rw [fisE_lk h.rise] at hdoc
  simp only [fisE_lk h.rise] at hop
  have H := Hidden.mk (And.intro h (And.intro hm0 hk))
  obtain ⟨ba, cap, rfl, _, _⟩ := h.row.slice_
  obtain ⟨S, hS⟩ : ∃ S, 2 ^ b = S := ⟨_, rfl⟩
  have hS2 : S ≤ 1099511627776 := by
    obtain ⟨pb, seed, L, hFe, ht⟩ := h.tab
    have h2 := ht.tab.N2
    rw [ht.tab.len] at h2; omega
  rw [hS] at hsz hop
  clear h hm0 hk hS
  unfold keyV at hop
  go_enter Try.func73, Try.ntmps73
  go_wp2_with fail
  refine hdoc.mono ?_; clear hdoc
  rintro e w1 ⟨v', rfl, hR, hm1, hge⟩
  have b0 : w1.cell? ⟨w.heap.size, 0, none⟩ = some (.int .u8 dd) := (hbk.mod hm1 (by simp)).cell 0
  have b1 : w1.cell? ⟨w.heap.size, 1, none⟩ = some (.int .u8 lv) := (hbk.mod hm1 (by simp)).cell 1
  have b2 : w1.cell? ⟨w.heap.size, 2, none⟩ = some (.int .u64 px) := (hbk.mod hm1 (by simp)).cell 2
  have b3 : w1.cell? ⟨w.heap.size, 3, none⟩ = some (.int .u64 vv) := (hbk.mod hm1 (by simp)).cell 3
  have hbl : w.heap.size < w1.heap.size := by have := hm1.size; simp at this; omega
  obtain ⟨W2, hW2⟩ : ∃ W2, w1.alloc (.cells #[.int .u8 lv, .int .u64 px] 64) = W2 := ⟨_, rfl⟩
  have hm2 : Mod [] w1 W2 := by rw [← hW2]; exact (Mod.refl [] w1).alloc _
  have hmt : Mod [] w W2 := (H.out.2.1.trans hm1 (by simp)).trans hm2 (by simp)
  have hsz := hsz W2 hmt
  have hop := hop W2 hmt
  have kk : Blk W2 w1.heap.size 64 #[.int .u8 lv, .int .u64 px] := by rw [← hW2]; exact Blk.new _ _ _
  have k0 : W2.cell? ⟨w1.heap.size, 0, none⟩ = some (.int .u8 lv) := kk.cell 0
  have k1 : W2.cell? ⟨w1.heap.size, 1, none⟩ = some (.int .u64 px) := kk.cell 1
  have e0 : W2.cell? ⟨w.heap.size, 0, none⟩ = some (.int .u8 dd) := (((hbk.mod hm1 (by simp))).mod hm2 (by simp)).cell 0
  have e3 : W2.cell? ⟨w.heap.size, 3, none⟩ = some (.int .u64 vv) := (((hbk.mod hm1 (by simp))).mod hm2 (by simp)).cell 3
  have hge : ∀ k ∈ rb v', k ∈ rb (.slice ba l.length cap) ∨ w.heap.size ≤ k := fun k hk => (hge k hk).imp id (fun h => by simp at h; omega)
  have HR := Hidden.mk (And.intro hR (And.intro hge (And.intro (H.out.2.1.trans hm1 (by simp)) hm2)))
  clear hR hge hbk hm1 hm2 hmt kk
  go_wp2_with fail
  refine hsz.mono ?_; clear hsz; rintro e w3 ⟨rfl, rfl⟩
  go_wp2_with fail
  refine hop.mono ?_; clear hop
  rintro e w4 ⟨rfl, pr', hT, hM, hmod, hq1, hq2⟩
  have hF : ∀ q ∈ F, q ∈ F ∨ W2.heap.size ≤ q := fun q hq => .inl hq
  have hpb1 := hpb _ _ _ _ _ hT
  have HT := Hidden.mk (And.intro hT (And.intro hM (And.intro hmod hF)))
  clear hT hM hmod hF hpb
  go_wp2_with fail
  refine hpb1.mono ?_; rintro e w5 ⟨rfl, rfl⟩
  have hp1 : decide ((1 : Int) ≤ pr') = true := by simp; omega
  have hp2 : decide (pr' ≤ (S : Int)) = true := by simp; omega
  go_wp2_with fail
  refine hpb1.mono ?_; clear hpb1; rintro e w5 ⟨rfl, rfl⟩
  go_wp2_with fail
  go_ret2
  exact did_mk H.out.1 HR.out.2.2.1 HR.out.1 HR.out.2.1 HR.out.2.2.2 HT.out.1 HT.out.2.1 HT.out.2.2.1 HT.out.2.2.2 (H.out.1.rise)
set_option maxRecDepth 100000 in
set_option maxHeartbeats 2000000 in
theorem do_drop {w : World} {tb mb b : Nat} {F : List Nat} {pr : Int} {l : EL} {m : Mt} {v : Value} (dd lv px vv : Int) (h : Pair5 w tb mb b F pr l m v) (hl : l.length ≤ 1000) (hdd : 0 ≤ dd ∧ dd ≤ 255) (hk : KeyOK (lv, px)) (hc : dd % 4 = 2) :
    Calls Try.prog 73 #[.pointer (some ⟨tb, 0, none⟩), v, .agg #[.int .u8 dd, .int .u8 lv, .int .u64 px, .int .u64 vv]] w (Did w tb mb F v (dropL l (lv, px)) (m)) := by
  have hbk := Blk.new w 104 #[.int .u8 dd, .int .u8 lv, .int .u64 px, .int .u64 vv]
  have hm0 := (Mod.refl [] w).alloc (.cells #[.int .u8 dd, .int .u8 lv, .int .u64 px, .int .u64 vv] 104)
  have hdoc := ref05_drop l v dd lv px vv _ (h.row.mod hm0 (by simp)) hl h.rise hdd hc
  have hsz := fun W (hW : Mod [] w W) => hash_size (h.tab.mod hW (by simp))
  have hop := fun W (hW : Mod [] w W) => hash_drop (lv, px) hk (h.tab.mod hW (by simp))
  have hpb := fun W F b pr l (hW : TabAt W tb mb F b pr l) => hash_probes hW
  rw [fisE_lk h.rise] at hdoc
  simp only [fisE_lk h.rise] at hop
  have H := Hidden.mk (And.intro h (And.intro hm0 hk))
  obtain ⟨ba, cap, rfl, _, _⟩ := h.row.slice_
  obtain ⟨S, hS⟩ : ∃ S, 2 ^ b = S := ⟨_, rfl⟩
  have hS2 : S ≤ 1099511627776 := by
    obtain ⟨pb, seed, L, hFe, ht⟩ := h.tab
    have h2 := ht.tab.N2
    rw [ht.tab.len] at h2; omega
  rw [hS] at hsz hop
  clear h hm0 hk hS
  unfold keyV at hop
  go_enter Try.func73, Try.ntmps73
  go_wp2_with fail
  refine hdoc.mono ?_; clear hdoc
  rintro e w1 ⟨v', rfl, hR, hm1, hge⟩
  have b0 : w1.cell? ⟨w.heap.size, 0, none⟩ = some (.int .u8 dd) := (hbk.mod hm1 (by simp)).cell 0
  have b1 : w1.cell? ⟨w.heap.size, 1, none⟩ = some (.int .u8 lv) := (hbk.mod hm1 (by simp)).cell 1
  have b2 : w1.cell? ⟨w.heap.size, 2, none⟩ = some (.int .u64 px) := (hbk.mod hm1 (by simp)).cell 2
  have b3 : w1.cell? ⟨w.heap.size, 3, none⟩ = some (.int .u64 vv) := (hbk.mod hm1 (by simp)).cell 3
  have hbl : w.heap.size < w1.heap.size := by have := hm1.size; simp at this; omega
  obtain ⟨W2, hW2⟩ : ∃ W2, w1.alloc (.cells #[.int .u8 lv, .int .u64 px] 64) = W2 := ⟨_, rfl⟩
  have hm2 : Mod [] w1 W2 := by rw [← hW2]; exact (Mod.refl [] w1).alloc _
  have hmt : Mod [] w W2 := (H.out.2.1.trans hm1 (by simp)).trans hm2 (by simp)
  have hsz := hsz W2 hmt
  have hop := hop W2 hmt
  have kk : Blk W2 w1.heap.size 64 #[.int .u8 lv, .int .u64 px] := by rw [← hW2]; exact Blk.new _ _ _
  have k0 : W2.cell? ⟨w1.heap.size, 0, none⟩ = some (.int .u8 lv) := kk.cell 0
  have k1 : W2.cell? ⟨w1.heap.size, 1, none⟩ = some (.int .u64 px) := kk.cell 1
  have e0 : W2.cell? ⟨w.heap.size, 0, none⟩ = some (.int .u8 dd) := (((hbk.mod hm1 (by simp))).mod hm2 (by simp)).cell 0
  have e3 : W2.cell? ⟨w.heap.size, 3, none⟩ = some (.int .u64 vv) := (((hbk.mod hm1 (by simp))).mod hm2 (by simp)).cell 3
  have hge : ∀ k ∈ rb v', k ∈ rb (.slice ba l.length cap) ∨ w.heap.size ≤ k := fun k hk => (hge k hk).imp id (fun h => by simp at h; omega)
  have HR := Hidden.mk (And.intro hR (And.intro hge (And.intro (H.out.2.1.trans hm1 (by simp)) hm2)))
  clear hR hge hbk hm1 hm2 hmt kk
  go_wp2_with fail
  refine hsz.mono ?_; clear hsz; rintro e w3 ⟨rfl, rfl⟩
  go_wp2_with fail
  refine hop.mono ?_; clear hop
  rintro e w4 ⟨rfl, F', b', pr', hT, hmod0, hF, hq1, hq2⟩
  have hM : MeterAt w4 mb m := (H.out.1.met.mod (HR.out.2.2.1.trans HR.out.2.2.2 (by simp)) (by simp)).mod hmod0 H.out.1.d1
  have hmod : Mod (mb :: F) W2 w4 := hmod0.mono (fun x hx => .inl (by simp [hx]))
  clear hmod0
  have hpb1 := hpb _ _ _ _ _ hT
  have HT := Hidden.mk (And.intro hT (And.intro hM (And.intro hmod hF)))
  clear hT hM hmod hF hpb
  go_wp2_with fail
  refine hpb1.mono ?_; rintro e w5 ⟨rfl, rfl⟩
  have hp1 : decide ((1 : Int) ≤ pr') = true := by simp; omega
  have hp2 : decide (pr' ≤ (S : Int)) = true := by simp; omega
  go_wp2_with fail
  refine hpb1.mono ?_; clear hpb1; rintro e w5 ⟨rfl, rfl⟩
  go_wp2_with fail
  go_ret2
  exact did_mk H.out.1 HR.out.2.2.1 HR.out.1 HR.out.2.1 HR.out.2.2.2 HT.out.1 HT.out.2.1 HT.out.2.2.1 HT.out.2.2.2 (rise_filter H.out.1.rise _)
set_option maxRecDepth 100000 in
set_option maxHeartbeats 2000000 in
theorem do_put0 {w : World} {tb mb b : Nat} {F : List Nat} {pr : Int} {l : EL} {m : Mt} {v : Value} (dd lv px vv : Int) (h : Pair5 w tb mb b F pr l m v) (hl : l.length ≤ 1000) (hdd : 0 ≤ dd ∧ dd ≤ 255) (hk : KeyOK (lv, px)) (hc : dd % 4 = 0) :
    Calls Try.prog 73 #[.pointer (some ⟨tb, 0, none⟩), v, .agg #[.int .u8 dd, .int .u8 lv, .int .u64 px, .int .u64 vv]] w (Did w tb mb F v (putE l (lv, px) vv) (m)) := by
  have hbk := Blk.new w 104 #[.int .u8 dd, .int .u8 lv, .int .u64 px, .int .u64 vv]
  have hm0 := (Mod.refl [] w).alloc (.cells #[.int .u8 dd, .int .u8 lv, .int .u64 px, .int .u64 vv] 104)
  have hdoc := ref05_put0 l v dd lv px vv _ (h.row.mod hm0 (by simp)) hl h.rise hdd hc
  have hsz := fun W (hW : Mod [] w W) => hash_size (h.tab.mod hW (by simp))
  have hop := fun W (hW : Mod [] w W) => hash_put (lv, px) vv hk (h.tab.mod hW (by simp)) (by omega)
  have hpb := fun W F b pr l (hW : TabAt W tb mb F b pr l) => hash_probes hW
  rw [fisE_lk h.rise] at hdoc
  simp only [← Option.not_isSome, fisE_lk h.rise] at hop
  have H := Hidden.mk (And.intro h (And.intro hm0 hk))
  obtain ⟨ba, cap, rfl, _, _⟩ := h.row.slice_
  obtain ⟨S, hS⟩ : ∃ S, 2 ^ b = S := ⟨_, rfl⟩
  have hS2 : S ≤ 1099511627776 := by
    obtain ⟨pb, seed, L, hFe, ht⟩ := h.tab
    have h2 := ht.tab.N2
    rw [ht.tab.len] at h2; omega
  rw [hS] at hsz hop
  clear h hm0 hk hS
  unfold keyV at hop
  go_enter Try.func73, Try.ntmps73
  go_wp2_with fail
  refine hdoc.mono ?_; clear hdoc
  rintro e w1 ⟨v', rfl, hR, hm1, hge⟩
  have b0 : w1.cell? ⟨w.heap.size, 0, none⟩ = some (.int .u8 dd) := (hbk.mod hm1 (by simp)).cell 0
  have b1 : w1.cell? ⟨w.heap.size, 1, none⟩ = some (.int .u8 lv) := (hbk.mod hm1 (by simp)).cell 1
  have b2 : w1.cell? ⟨w.heap.size, 2, none⟩ = some (.int .u64 px) := (hbk.mod hm1 (by simp)).cell 2
  have b3 : w1.cell? ⟨w.heap.size, 3, none⟩ = some (.int .u64 vv) := (hbk.mod hm1 (by simp)).cell 3
  have hbl : w.heap.size < w1.heap.size := by have := hm1.size; simp at this; omega
  obtain ⟨W2, hW2⟩ : ∃ W2, w1.alloc (.cells #[.int .u8 lv, .int .u64 px] 64) = W2 := ⟨_, rfl⟩
  have hm2 : Mod [] w1 W2 := by rw [← hW2]; exact (Mod.refl [] w1).alloc _
  have hmt : Mod [] w W2 := (H.out.2.1.trans hm1 (by simp)).trans hm2 (by simp)
  have hsz := hsz W2 hmt
  have hop := hop W2 hmt
  have kk : Blk W2 w1.heap.size 64 #[.int .u8 lv, .int .u64 px] := by rw [← hW2]; exact Blk.new _ _ _
  have k0 : W2.cell? ⟨w1.heap.size, 0, none⟩ = some (.int .u8 lv) := kk.cell 0
  have k1 : W2.cell? ⟨w1.heap.size, 1, none⟩ = some (.int .u64 px) := kk.cell 1
  have e0 : W2.cell? ⟨w.heap.size, 0, none⟩ = some (.int .u8 dd) := (((hbk.mod hm1 (by simp))).mod hm2 (by simp)).cell 0
  have e3 : W2.cell? ⟨w.heap.size, 3, none⟩ = some (.int .u64 vv) := (((hbk.mod hm1 (by simp))).mod hm2 (by simp)).cell 3
  have hge : ∀ k ∈ rb v', k ∈ rb (.slice ba l.length cap) ∨ w.heap.size ≤ k := fun k hk => (hge k hk).imp id (fun h => by simp at h; omega)
  have HR := Hidden.mk (And.intro hR (And.intro hge (And.intro (H.out.2.1.trans hm1 (by simp)) hm2)))
  clear hR hge hbk hm1 hm2 hmt kk
  go_wp2_with fail
  refine hsz.mono ?_; clear hsz; rintro e w3 ⟨rfl, rfl⟩
  go_wp2_with fail
  refine hop.mono ?_; clear hop
  rintro e w4 ⟨rfl, F', b', pr', hT0, hmod0, hF, hq1, hq2⟩
  have hT := hT0.perm (putE_perm H.out.1.rise (lv, px) vv)
  have hM : MeterAt w4 mb m := (H.out.1.met.mod (HR.out.2.2.1.trans HR.out.2.2.2 (by simp)) (by simp)).mod hmod0 H.out.1.d1
  have hmod : Mod (mb :: F) W2 w4 := hmod0.mono (fun x hx => .inl (by simp [hx]))
  clear hmod0 hT0
  have hpb1 := hpb _ _ _ _ _ hT
  have HT := Hidden.mk (And.intro hT (And.intro hM (And.intro hmod hF)))
  clear hT hM hmod hF hpb
  go_wp2_with fail
  refine hpb1.mono ?_; rintro e w5 ⟨rfl, rfl⟩
  have hp1 : decide ((1 : Int) ≤ pr') = true := by simp; omega
  have hp2 : decide (pr' ≤ (S : Int)) = true := by simp; omega
  go_wp2_with fail
  refine hpb1.mono ?_; clear hpb1; rintro e w5 ⟨rfl, rfl⟩
  go_wp2_with fail
  go_ret2
  exact did_mk H.out.1 HR.out.2.2.1 HR.out.1 HR.out.2.1 HR.out.2.2.2 HT.out.1 HT.out.2.1 HT.out.2.2.1 HT.out.2.2.2 (putE_rise H.out.1.rise _ _)
set_option maxRecDepth 100000 in
set_option maxHeartbeats 2000000 in
theorem do_put1 {w : World} {tb mb b : Nat} {F : List Nat} {pr : Int} {l : EL} {m : Mt} {v : Value} (dd lv px vv : Int) (h : Pair5 w tb mb b F pr l m v) (hl : l.length ≤ 1000) (hdd : 0 ≤ dd ∧ dd ≤ 255) (hk : KeyOK (lv, px)) (hc : dd % 4 = 1) :
    Calls Try.prog 73 #[.pointer (some ⟨tb, 0, none⟩), v, .agg #[.int .u8 dd, .int .u8 lv, .int .u64 px, .int .u64 vv]] w (Did w tb mb F v (putE l (lv, px) vv) (m)) := by
  have hbk := Blk.new w 104 #[.int .u8 dd, .int .u8 lv, .int .u64 px, .int .u64 vv]
  have hm0 := (Mod.refl [] w).alloc (.cells #[.int .u8 dd, .int .u8 lv, .int .u64 px, .int .u64 vv] 104)
  have hdoc := ref05_put1 l v dd lv px vv _ (h.row.mod hm0 (by simp)) hl h.rise hdd hc
  have hsz := fun W (hW : Mod [] w W) => hash_size (h.tab.mod hW (by simp))
  have hop := fun W (hW : Mod [] w W) => hash_put (lv, px) vv hk (h.tab.mod hW (by simp)) (by omega)
  have hpb := fun W F b pr l (hW : TabAt W tb mb F b pr l) => hash_probes hW
  rw [fisE_lk h.rise] at hdoc
  simp only [← Option.not_isSome, fisE_lk h.rise] at hop
  have H := Hidden.mk (And.intro h (And.intro hm0 hk))
  obtain ⟨ba, cap, rfl, _, _⟩ := h.row.slice_
  obtain ⟨S, hS⟩ : ∃ S, 2 ^ b = S := ⟨_, rfl⟩
  have hS2 : S ≤ 1099511627776 := by
    obtain ⟨pb, seed, L, hFe, ht⟩ := h.tab
    have h2 := ht.tab.N2
    rw [ht.tab.len] at h2; omega
  rw [hS] at hsz hop
  clear h hm0 hk hS
  unfold keyV at hop
  go_enter Try.func73, Try.ntmps73
  go_wp2_with fail
  refine hdoc.mono ?_; clear hdoc
  rintro e w1 ⟨v', rfl, hR, hm1, hge⟩
  have b0 : w1.cell? ⟨w.heap.size, 0, none⟩ = some (.int .u8 dd) := (hbk.mod hm1 (by simp)).cell 0
  have b1 : w1.cell? ⟨w.heap.size, 1, none⟩ = some (.int .u8 lv) := (hbk.mod hm1 (by simp)).cell 1
  have b2 : w1.cell? ⟨w.heap.size, 2, none⟩ = some (.int .u64 px) := (hbk.mod hm1 (by simp)).cell 2
  have b3 : w1.cell? ⟨w.heap.size, 3, none⟩ = some (.int .u64 vv) := (hbk.mod hm1 (by simp)).cell 3
  have hbl : w.heap.size < w1.heap.size := by have := hm1.size; simp at this; omega
  obtain ⟨W2, hW2⟩ : ∃ W2, w1.alloc (.cells #[.int .u8 lv, .int .u64 px] 64) = W2 := ⟨_, rfl⟩
  have hm2 : Mod [] w1 W2 := by rw [← hW2]; exact (Mod.refl [] w1).alloc _
  have hmt : Mod [] w W2 := (H.out.2.1.trans hm1 (by simp)).trans hm2 (by simp)
  have hsz := hsz W2 hmt
  have hop := hop W2 hmt
  have kk : Blk W2 w1.heap.size 64 #[.int .u8 lv, .int .u64 px] := by rw [← hW2]; exact Blk.new _ _ _
  have k0 : W2.cell? ⟨w1.heap.size, 0, none⟩ = some (.int .u8 lv) := kk.cell 0
  have k1 : W2.cell? ⟨w1.heap.size, 1, none⟩ = some (.int .u64 px) := kk.cell 1
  have e0 : W2.cell? ⟨w.heap.size, 0, none⟩ = some (.int .u8 dd) := (((hbk.mod hm1 (by simp))).mod hm2 (by simp)).cell 0
  have e3 : W2.cell? ⟨w.heap.size, 3, none⟩ = some (.int .u64 vv) := (((hbk.mod hm1 (by simp))).mod hm2 (by simp)).cell 3
  have hge : ∀ k ∈ rb v', k ∈ rb (.slice ba l.length cap) ∨ w.heap.size ≤ k := fun k hk => (hge k hk).imp id (fun h => by simp at h; omega)
  have HR := Hidden.mk (And.intro hR (And.intro hge (And.intro (H.out.2.1.trans hm1 (by simp)) hm2)))
  clear hR hge hbk hm1 hm2 hmt kk
  go_wp2_with fail
  refine hsz.mono ?_; clear hsz; rintro e w3 ⟨rfl, rfl⟩
  go_wp2_with fail
  refine hop.mono ?_; clear hop
  rintro e w4 ⟨rfl, F', b', pr', hT0, hmod0, hF, hq1, hq2⟩
  have hT := hT0.perm (putE_perm H.out.1.rise (lv, px) vv)
  have hM : MeterAt w4 mb m := (H.out.1.met.mod (HR.out.2.2.1.trans HR.out.2.2.2 (by simp)) (by simp)).mod hmod0 H.out.1.d1
  have hmod : Mod (mb :: F) W2 w4 := hmod0.mono (fun x hx => .inl (by simp [hx]))
  clear hmod0 hT0
  have hpb1 := hpb _ _ _ _ _ hT
  have HT := Hidden.mk (And.intro hT (And.intro hM (And.intro hmod hF)))
  clear hT hM hmod hF hpb
  go_wp2_with fail
  refine hpb1.mono ?_; rintro e w5 ⟨rfl, rfl⟩
  have hp1 : decide ((1 : Int) ≤ pr') = true := by simp; omega
  have hp2 : decide (pr' ≤ (S : Int)) = true := by simp; omega
  go_wp2_with fail
  refine hpb1.mono ?_; clear hpb1; rintro e w5 ⟨rfl, rfl⟩
  go_wp2_with fail
  go_ret2
  exact did_mk H.out.1 HR.out.2.2.1 HR.out.1 HR.out.2.1 HR.out.2.2.2 HT.out.1 HT.out.2.1 HT.out.2.2.1 HT.out.2.2.2 (putE_rise H.out.1.rise _ _)
theorem do_any {w : World} {tb mb b : Nat} {F : List Nat} {pr : Int} {l : EL} {m : Mt} {v : Value} (dd lv px vv : Int) (h : Pair5 w tb mb b F pr l m v) (hl : l.length ≤ 1000) (hdd : 0 ≤ dd ∧ dd ≤ 255) (hk : KeyOK (lv, px)) :
    Calls Try.prog 73 #[.pointer (some ⟨tb, 0, none⟩), v, .agg #[.int .u8 dd, .int .u8 lv, .int .u64 px, .int .u64 vv]] w (Did w tb mb F v (actE l dd (lv, px) vv) (if dd % 4 = 3 then m.call else m)) := by
  unfold actE
  rcases (show dd % 4 = 0 ∨ dd % 4 = 1 ∨ dd % 4 = 2 ∨ dd % 4 = 3 by omega) with hc | hc | hc | hc
  · simp only [hc, Int.reduceEq, if_false]; exact do_put0 dd lv px vv h hl hdd hk hc
  · simp only [hc, Int.reduceEq, if_false]; exact do_put1 dd lv px vv h hl hdd hk hc
  · simp only [hc, Int.reduceEq, if_false, if_true]; exact do_drop dd lv px vv h hl hdd hk hc
  · simp only [hc, if_true]; exact do_get dd lv px vv h hl hdd hk hc
end Go.Proofs.Ytnbanbfnabhjjaa

