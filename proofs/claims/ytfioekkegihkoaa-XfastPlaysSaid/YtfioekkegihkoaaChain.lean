/- The chain in memory: New, change. -/
import Derived.Test.YtfioekkegihkoaaChainM
import Derived.RegionCalls
namespace Go.Proofs.Ytfioekkegihkoaa
open Go.RowKit
set_option linter.unusedVariables false
set_option linter.unusedSimpArgs false
abbrev linkV (v : VL) : Value := .agg #[.int .u64 v.1, .int .i64 v.2.1, .int .i64 v.2.2]
/-- The chain at cb, with its blocks: links in their order. fr: none was freed so far. -/
def ChainAt (w : World) (cb mb : Nat) (F : List Nat) (limit : Nat) (fr : Bool) (L : CL) : Prop := ∃ pb Fp s, F = cb :: Fp ∧
  Blk w cb 127 #[.pointer (some ⟨mb, 0, none⟩), .pointer (some ⟨pb, 0, none⟩), .int .i64 (hdC L (-1)), .int .i64 (lsC L (-1))] ∧
  PoolAt TL w pb mb Fp s ∧ cb ∉ Fp ∧ Linked s L ∧ s.limit = limit ∧ (fr = true → s.free = [] ∧ s.cells.length = L.length)
section
variable {w w' : World} {cb mb limit : Nat} {F : List Nat} {fr : Bool} {L A B : CL}
theorem ChainAt.mod (h : ChainAt w cb mb F limit fr L) {S : List Nat} (hm : Mod S w w') (hS : ∀ k ∈ S, k ∉ F) : ChainAt w' cb mb F limit fr L := by
  obtain ⟨pb, Fp, s, rfl, h1, h2, h3⟩ := h
  exact ⟨pb, Fp, s, rfl, h1.mod hm (fun hk => hS _ hk (by simp)), h2.mod hm (fun k hk hk' => hS k hk (by simp [hk'])), h3⟩
theorem ChainAt.lt (h : ChainAt w cb mb F limit fr L) : ∀ k ∈ F, k < w.heap.size := by
  obtain ⟨pb, Fp, s, rfl, h1, h2, h3⟩ := h
  intro k hk
  rcases List.mem_cons.1 hk with rfl | hk
  · exact h1.lt
  · exact h2.lt k hk
theorem ChainAt.head (h : ChainAt w cb mb F limit fr L) : cb ∈ F := by obtain ⟨pb, Fp, s, rfl, h1, h2, h3⟩ := h; simp
theorem ChainAt.len (h : ChainAt w cb mb F limit fr L) : L.length ≤ limit ∧ limit ≤ 1048576 := by
  obtain ⟨pb, Fp, s, rfl, h1, h2, h3, h4, rfl, h5⟩ := h
  have := h2.wf.live_le; have := h2.wf.lim; rw [h4.live] at *; omega
theorem ChainAt.place (h : ChainAt w cb mb F limit fr L) : ∀ e ∈ L, e.1 < 1048576 := by
  obtain ⟨pb, Fp, s, rfl, h1, h2, h3, h4, rfl, h5⟩ := h
  intro e he
  obtain ⟨p, n, hg⟩ := h4.seg.get he
  have := (PS.get_lt hg).1; have := h2.wf.len; have := h2.wf.lim
  simp at *; omega
theorem ChainAt.nodup (h : ChainAt w cb mb F limit fr L) : (L.map (·.1)).Nodup := by
  obtain ⟨pb, Fp, s, rfl, h1, h2, h3, h4, rfl, h5⟩ := h; exact h4.nodup
theorem ChainAt.mono (h : ChainAt w cb mb F limit fr L) : ChainAt w cb mb F limit false L := by
  obtain ⟨pb, Fp, s, h0, h1, h2, h3, h4, h5, h6⟩ := h; exact ⟨pb, Fp, s, h0, h1, h2, h3, h4, h5, by simp⟩
end
set_option maxHeartbeats 400000 in
theorem chain_new_bad (m : Value) (limit : Int) (w : World) (hl : limit < 0 ∨ 1048576 < limit) :
    Calls Try.prog 53 #[m, .int .i64 limit] w fun e w' => e = .returned (.tuple #[.pointer none, .int .i64 1]) ∧ w = w' := by
  have h := poolL_new_bad m limit w hl
  clear hl
  go_enter Try.func53, Try.ntmps53
  go_wp2_with fail
  refine h.mono ?_; rintro e w' ⟨rfl, rfl⟩
  clear h
  go_wp2_with fail
  go_ret2
  exact ⟨rfl, rfl⟩
theorem ChainAt.new_ {w : World} {pb mb limit : Nat} (h : PoolIn TL w pb mb (.slice none 0 0) (.slice none 0 0) (PS.empty limit)) :
    ChainAt (w.alloc (.cells #[.pointer (some ⟨mb, 0, none⟩), .pointer (some ⟨pb, 0, none⟩), .int .i64 (-1), .int .i64 (-1)] 127)) w.heap.size mb [w.heap.size, pb] limit true [] := by
  have hlt := h.blk.lt
  refine ⟨pb, [pb], PS.empty limit, rfl, Blk.new w _ _, ?_, by simp; omega, Linked.empty limit, rfl, fun _ => ⟨rfl, rfl⟩⟩
  exact ⟨_, _, rfl, h.mod ((Mod.refl [] w).alloc _) (by simp)⟩
set_option maxHeartbeats 400000 in
theorem chain_new (mb : Nat) (limit : Nat) (w : World) (hl : limit ≤ 1048576) :
    Calls Try.prog 53 #[.pointer (some ⟨mb, 0, none⟩), .int .i64 limit] w fun e w' => ∃ cb F, e = .returned (.tuple #[.pointer (some ⟨cb, 0, none⟩), .int .i64 0]) ∧ ChainAt w' cb mb F limit true [] ∧ Mod [] w w' ∧ ∀ k ∈ F, w.heap.size ≤ k := by
  have h := poolL_new mb limit w hl
  clear hl
  go_enter Try.func53, Try.ntmps53
  go_wp2_with fail
  refine h.mono ?_; rintro e w1 ⟨rfl, h1, hm⟩
  clear h
  have c0 := h1.c0
  have hlt := h1.blk.lt
  have H := Hidden.mk (And.intro h1 hm)
  clear h1 hm
  go_wp2_with fail
  go_ret2
  have hsz := H.out.2.size
  exact ⟨_, _, rfl, ChainAt.new_ H.out.1, H.out.2.alloc _, by simp; omega⟩
set_option maxHeartbeats 400000 in
theorem chain_new_nil (limit : Nat) (w : World) (hl : limit ≤ 1048576) :
    Calls Try.prog 53 #[.pointer none, .int .i64 limit] w fun e w' => ∃ cb mb F, e = .returned (.tuple #[.pointer (some ⟨cb, 0, none⟩), .int .i64 0]) ∧ ChainAt w' cb mb F limit true [] ∧ MeterAt w' mb Mt.zero ∧ mb ∉ F ∧ Mod [] w w' ∧ w.heap.size ≤ mb ∧ ∀ k ∈ F, w.heap.size ≤ k := by
  have h := poolL_new_nil limit w hl
  clear hl
  go_enter Try.func53, Try.ntmps53
  go_wp2_with fail
  refine h.mono ?_; rintro e w1 ⟨rfl, h1, h2, hm⟩
  clear h
  have c0 := h1.c0
  have hlt := h1.blk.lt
  have H := Hidden.mk (And.intro h1 (And.intro hm h2))
  clear h1 hm h2
  go_wp2_with fail
  go_ret2
  have hsz := H.out.2.1.size
  exact ⟨_, _, _, rfl, ChainAt.new_ H.out.1, H.out.2.2.mod ((Mod.refl [] w1).alloc _) (by simp), by simp; omega, H.out.2.1.alloc _, by omega, by simp; omega⟩

set_option maxHeartbeats 400000 in
theorem chain_clo_bn (xb q : Nat) (z y : Int) (w : World) (hz : w.cell? ⟨q, 0, none⟩ = some (.int .i64 z)) (hy : w.cell? ⟨xb, 2, none⟩ = some (.int .i64 y)) (hf : w.frozen? ⟨xb, 2, none⟩ = false) :
    Calls Try.prog 111 #[.pointer (some ⟨xb, 0, none⟩), .pointer (some ⟨q, 0, none⟩)] w fun e w' => e = .returned (.tuple #[]) ∧ w.setCell ⟨xb, 2, none⟩ (.int .i64 z) = w' := by
  go_enter Try.func111, Try.ntmps111
  go_wp2
  go_end0
  exact ⟨rfl, rfl⟩
set_option maxRecDepth 100000 in
set_option maxHeartbeats 1000000 in
theorem chain_change_bn (cb pb mb q : Nat) (Fp : List Nat) (s : PS VL) (i z : Int) (w : World) (h : PoolAt TL w pb mb Fp s) (hc : w.cell? ⟨cb, 1, none⟩ = some (.pointer (some ⟨pb, 0, none⟩))) (hz : w.cell? ⟨q, 0, none⟩ = some (.int .i64 z)) :
    Calls Try.prog 110 #[.pointer (some ⟨cb, 0, none⟩), .int .i64 i, .func (.func 111) #[] #[.pointer (some ⟨q, 0, none⟩)]] w fun e w' => e = .returned (.tuple #[]) ∧ PoolAt TL w' pb mb Fp (chg s i (setNext z)) ∧ Mod Fp w w' := by
  have hcb : cb < w.heap.size := by simpa using World.block_lt_of_cell? w _ hc
  have hqb : q < w.heap.size := by simpa using World.block_lt_of_cell? w _ hz
  have hFp := h.lt
  cases hg : s.get i with
  | none =>
    have hp := pL_peek_no i h hg
    rw [chg_none hg]
    have H := Hidden.mk h
    clear h hg hFp
    go_enter Try.func110, Try.ntmps110
    go_wp2_with fail
    refine hp.mono ?_; clear hp; rintro e w1 ⟨rfl, hm⟩
    have HM := Hidden.mk hm
    clear hm
    go_wp2_with fail
    go_end0
    refine ⟨rfl, H.out.mod (HM.out.alloc _) (by simp), (HM.out.alloc _).mono (by simp)⟩
  | some v =>
    have hp := pL_peek_yes i h hg
    rw [chg_some hg]
    obtain ⟨_, hi0⟩ := PS.get_lt hg
    obtain ⟨j, rfl⟩ : ∃ q : Nat, i = q := ⟨i.toNat, by omega⟩
    simp only [Int.toNat_natCast]
    have hput := fun W (hW : Mod [] w W) => pL_put j (setNext z v) (h.mod hW (by simp)) hg
    obtain ⟨v1, v2, v3⟩ := v
    simp only [setNext] at hp hput ⊢
    clear h hg
    go_enter Try.func110, Try.ntmps110
    go_wp2_with fail
    refine hp.mono ?_; clear hp; rintro e w1 ⟨rfl, hm⟩
    have hcm := hm.size
    have hz1 : (w1.alloc (.cells #[.int .u64 v1, .int .i64 v2, .int .i64 v3] 121)).cell? ⟨q, 0, none⟩ = some (.int .i64 z) := ((hm.alloc _).below'.cell (p := ⟨q, 0, none⟩) hqb).trans hz
    have hc1 : w1.cell? ⟨cb, 1, none⟩ = some (.pointer (some ⟨pb, 0, none⟩)) := (hm.below'.cell (p := ⟨cb, 1, none⟩) hcb).trans hc
    have hcb1 : cb < w1.heap.size := by omega
    have HM := Hidden.mk (And.intro hm hFp)
    clear hm hFp
    go_wp2_with fail
    refine (chain_clo_bn _ q z _ _ hz1 ((Blk.new w1 121 #[.int .u64 v1, .int .i64 v2, .int .i64 v3]).cell 2) ((Blk.new w1 121 #[.int .u64 v1, .int .i64 v2, .int .i64 v3]).frozen 2)).mono ?_
    rintro e w2 ⟨rfl, hw2⟩
    have hX : Blk w2 w1.heap.size 121 (Array.setIfInBounds #[.int .u64 v1, .int .i64 v2, .int .i64 v3] 2 (.int .i64 z)) := hw2 ▸ (Blk.new w1 121 #[.int .u64 v1, .int .i64 v2, .int .i64 v3]).set 2 _
    have hM2 : Mod [] w w2 := hw2 ▸ ((HM.out.1.alloc _).set (.inr (by have := HM.out.1.size; simpa using this)) _)
    clear hw2 hz1
    have x0 := hX.cell 0
    have x1 := hX.cell 1
    have x2 := hX.cell 2
    simp at x0 x1 x2
    have hc2 : w2.cell? ⟨cb, 1, none⟩ = some (.pointer (some ⟨pb, 0, none⟩)) := (hM2.below'.cell (p := ⟨cb, 1, none⟩) hcb).trans hc
    have hxlt := hX.lt
    have HX := Hidden.mk hM2
    clear hX hM2
    go_wp2_with fail
    go_region_with (go_at_call 141; refine (hput _ (by first | exact HX.out | exact HX.out.drew | exact HX.out.drewN _)).mono ?_; rintro e w3 ⟨rfl, k1, k2⟩)
    all_goals
      have HK := Hidden.mk (And.intro k1 k2)
      clear k1 k2
      go_wp2_with fail
      go_end0
      exact ⟨rfl, HK.out.1, (HX.out.drew.mono (by simp)).trans HK.out.2 (fun x hx => .inl hx)⟩

set_option maxHeartbeats 400000 in
theorem chain_clo_bp (xb q : Nat) (z y : Int) (w : World) (hz : w.cell? ⟨q, 0, none⟩ = some (.int .i64 z)) (hy : w.cell? ⟨xb, 1, none⟩ = some (.int .i64 y)) (hf : w.frozen? ⟨xb, 1, none⟩ = false) :
    Calls Try.prog 112 #[.pointer (some ⟨xb, 0, none⟩), .pointer (some ⟨q, 0, none⟩)] w fun e w' => e = .returned (.tuple #[]) ∧ w.setCell ⟨xb, 1, none⟩ (.int .i64 z) = w' := by
  go_enter Try.func112, Try.ntmps112
  go_wp2
  go_end0
  exact ⟨rfl, rfl⟩
set_option maxRecDepth 100000 in
set_option maxHeartbeats 1000000 in
theorem chain_change_bp (cb pb mb q : Nat) (Fp : List Nat) (s : PS VL) (i z : Int) (w : World) (h : PoolAt TL w pb mb Fp s) (hc : w.cell? ⟨cb, 1, none⟩ = some (.pointer (some ⟨pb, 0, none⟩))) (hz : w.cell? ⟨q, 0, none⟩ = some (.int .i64 z)) :
    Calls Try.prog 110 #[.pointer (some ⟨cb, 0, none⟩), .int .i64 i, .func (.func 112) #[] #[.pointer (some ⟨q, 0, none⟩)]] w fun e w' => e = .returned (.tuple #[]) ∧ PoolAt TL w' pb mb Fp (chg s i (setPrev z)) ∧ Mod Fp w w' := by
  have hcb : cb < w.heap.size := by simpa using World.block_lt_of_cell? w _ hc
  have hqb : q < w.heap.size := by simpa using World.block_lt_of_cell? w _ hz
  have hFp := h.lt
  cases hg : s.get i with
  | none =>
    have hp := pL_peek_no i h hg
    rw [chg_none hg]
    have H := Hidden.mk h
    clear h hg hFp
    go_enter Try.func110, Try.ntmps110
    go_wp2_with fail
    refine hp.mono ?_; clear hp; rintro e w1 ⟨rfl, hm⟩
    have HM := Hidden.mk hm
    clear hm
    go_wp2_with fail
    go_end0
    refine ⟨rfl, H.out.mod (HM.out.alloc _) (by simp), (HM.out.alloc _).mono (by simp)⟩
  | some v =>
    have hp := pL_peek_yes i h hg
    rw [chg_some hg]
    obtain ⟨_, hi0⟩ := PS.get_lt hg
    obtain ⟨j, rfl⟩ : ∃ q : Nat, i = q := ⟨i.toNat, by omega⟩
    simp only [Int.toNat_natCast]
    have hput := fun W (hW : Mod [] w W) => pL_put j (setPrev z v) (h.mod hW (by simp)) hg
    obtain ⟨v1, v2, v3⟩ := v
    simp only [setPrev] at hp hput ⊢
    clear h hg
    go_enter Try.func110, Try.ntmps110
    go_wp2_with fail
    refine hp.mono ?_; clear hp; rintro e w1 ⟨rfl, hm⟩
    have hcm := hm.size
    have hz1 : (w1.alloc (.cells #[.int .u64 v1, .int .i64 v2, .int .i64 v3] 121)).cell? ⟨q, 0, none⟩ = some (.int .i64 z) := ((hm.alloc _).below'.cell (p := ⟨q, 0, none⟩) hqb).trans hz
    have hc1 : w1.cell? ⟨cb, 1, none⟩ = some (.pointer (some ⟨pb, 0, none⟩)) := (hm.below'.cell (p := ⟨cb, 1, none⟩) hcb).trans hc
    have hcb1 : cb < w1.heap.size := by omega
    have HM := Hidden.mk (And.intro hm hFp)
    clear hm hFp
    go_wp2_with fail
    refine (chain_clo_bp _ q z _ _ hz1 ((Blk.new w1 121 #[.int .u64 v1, .int .i64 v2, .int .i64 v3]).cell 1) ((Blk.new w1 121 #[.int .u64 v1, .int .i64 v2, .int .i64 v3]).frozen 1)).mono ?_
    rintro e w2 ⟨rfl, hw2⟩
    have hX : Blk w2 w1.heap.size 121 (Array.setIfInBounds #[.int .u64 v1, .int .i64 v2, .int .i64 v3] 1 (.int .i64 z)) := hw2 ▸ (Blk.new w1 121 #[.int .u64 v1, .int .i64 v2, .int .i64 v3]).set 1 _
    have hM2 : Mod [] w w2 := hw2 ▸ ((HM.out.1.alloc _).set (.inr (by have := HM.out.1.size; simpa using this)) _)
    clear hw2 hz1
    have x0 := hX.cell 0
    have x1 := hX.cell 1
    have x2 := hX.cell 2
    simp at x0 x1 x2
    have hc2 : w2.cell? ⟨cb, 1, none⟩ = some (.pointer (some ⟨pb, 0, none⟩)) := (hM2.below'.cell (p := ⟨cb, 1, none⟩) hcb).trans hc
    have hxlt := hX.lt
    have HX := Hidden.mk hM2
    clear hX hM2
    go_wp2_with fail
    go_region_with (go_at_call 141; refine (hput _ (by first | exact HX.out | exact HX.out.drew | exact HX.out.drewN _)).mono ?_; rintro e w3 ⟨rfl, k1, k2⟩)
    all_goals
      have HK := Hidden.mk (And.intro k1 k2)
      clear k1 k2
      go_wp2_with fail
      go_end0
      exact ⟨rfl, HK.out.1, (HX.out.drew.mono (by simp)).trans HK.out.2 (fun x hx => .inl hx)⟩

set_option maxHeartbeats 400000 in
theorem chain_clo_dn (xb q : Nat) (z y : Int) (w : World) (hz : w.cell? ⟨q, 2, none⟩ = some (.int .i64 z)) (hy : w.cell? ⟨xb, 2, none⟩ = some (.int .i64 y)) (hf : w.frozen? ⟨xb, 2, none⟩ = false) :
    Calls Try.prog 118 #[.pointer (some ⟨xb, 0, none⟩), .pointer (some ⟨q, 0, none⟩)] w fun e w' => e = .returned (.tuple #[]) ∧ w.setCell ⟨xb, 2, none⟩ (.int .i64 z) = w' := by
  go_enter Try.func118, Try.ntmps118
  go_wp2
  go_end0
  exact ⟨rfl, rfl⟩
set_option maxRecDepth 100000 in
set_option maxHeartbeats 1000000 in
theorem chain_change_dn (cb pb mb q : Nat) (Fp : List Nat) (s : PS VL) (i z : Int) (w : World) (h : PoolAt TL w pb mb Fp s) (hc : w.cell? ⟨cb, 1, none⟩ = some (.pointer (some ⟨pb, 0, none⟩))) (hz : w.cell? ⟨q, 2, none⟩ = some (.int .i64 z)) :
    Calls Try.prog 110 #[.pointer (some ⟨cb, 0, none⟩), .int .i64 i, .func (.func 118) #[] #[.pointer (some ⟨q, 0, none⟩)]] w fun e w' => e = .returned (.tuple #[]) ∧ PoolAt TL w' pb mb Fp (chg s i (setNext z)) ∧ Mod Fp w w' := by
  have hcb : cb < w.heap.size := by simpa using World.block_lt_of_cell? w _ hc
  have hqb : q < w.heap.size := by simpa using World.block_lt_of_cell? w _ hz
  have hFp := h.lt
  cases hg : s.get i with
  | none =>
    have hp := pL_peek_no i h hg
    rw [chg_none hg]
    have H := Hidden.mk h
    clear h hg hFp
    go_enter Try.func110, Try.ntmps110
    go_wp2_with fail
    refine hp.mono ?_; clear hp; rintro e w1 ⟨rfl, hm⟩
    have HM := Hidden.mk hm
    clear hm
    go_wp2_with fail
    go_end0
    refine ⟨rfl, H.out.mod (HM.out.alloc _) (by simp), (HM.out.alloc _).mono (by simp)⟩
  | some v =>
    have hp := pL_peek_yes i h hg
    rw [chg_some hg]
    obtain ⟨_, hi0⟩ := PS.get_lt hg
    obtain ⟨j, rfl⟩ : ∃ q : Nat, i = q := ⟨i.toNat, by omega⟩
    simp only [Int.toNat_natCast]
    have hput := fun W (hW : Mod [] w W) => pL_put j (setNext z v) (h.mod hW (by simp)) hg
    obtain ⟨v1, v2, v3⟩ := v
    simp only [setNext] at hp hput ⊢
    clear h hg
    go_enter Try.func110, Try.ntmps110
    go_wp2_with fail
    refine hp.mono ?_; clear hp; rintro e w1 ⟨rfl, hm⟩
    have hcm := hm.size
    have hz1 : (w1.alloc (.cells #[.int .u64 v1, .int .i64 v2, .int .i64 v3] 121)).cell? ⟨q, 2, none⟩ = some (.int .i64 z) := ((hm.alloc _).below'.cell (p := ⟨q, 2, none⟩) hqb).trans hz
    have hc1 : w1.cell? ⟨cb, 1, none⟩ = some (.pointer (some ⟨pb, 0, none⟩)) := (hm.below'.cell (p := ⟨cb, 1, none⟩) hcb).trans hc
    have hcb1 : cb < w1.heap.size := by omega
    have HM := Hidden.mk (And.intro hm hFp)
    clear hm hFp
    go_wp2_with fail
    refine (chain_clo_dn _ q z _ _ hz1 ((Blk.new w1 121 #[.int .u64 v1, .int .i64 v2, .int .i64 v3]).cell 2) ((Blk.new w1 121 #[.int .u64 v1, .int .i64 v2, .int .i64 v3]).frozen 2)).mono ?_
    rintro e w2 ⟨rfl, hw2⟩
    have hX : Blk w2 w1.heap.size 121 (Array.setIfInBounds #[.int .u64 v1, .int .i64 v2, .int .i64 v3] 2 (.int .i64 z)) := hw2 ▸ (Blk.new w1 121 #[.int .u64 v1, .int .i64 v2, .int .i64 v3]).set 2 _
    have hM2 : Mod [] w w2 := hw2 ▸ ((HM.out.1.alloc _).set (.inr (by have := HM.out.1.size; simpa using this)) _)
    clear hw2 hz1
    have x0 := hX.cell 0
    have x1 := hX.cell 1
    have x2 := hX.cell 2
    simp at x0 x1 x2
    have hc2 : w2.cell? ⟨cb, 1, none⟩ = some (.pointer (some ⟨pb, 0, none⟩)) := (hM2.below'.cell (p := ⟨cb, 1, none⟩) hcb).trans hc
    have hxlt := hX.lt
    have HX := Hidden.mk hM2
    clear hX hM2
    go_wp2_with fail
    go_region_with (go_at_call 141; refine (hput _ (by first | exact HX.out | exact HX.out.drew | exact HX.out.drewN _)).mono ?_; rintro e w3 ⟨rfl, k1, k2⟩)
    all_goals
      have HK := Hidden.mk (And.intro k1 k2)
      clear k1 k2
      go_wp2_with fail
      go_end0
      exact ⟨rfl, HK.out.1, (HX.out.drew.mono (by simp)).trans HK.out.2 (fun x hx => .inl hx)⟩

set_option maxHeartbeats 400000 in
theorem chain_clo_dp (xb q : Nat) (z y : Int) (w : World) (hz : w.cell? ⟨q, 1, none⟩ = some (.int .i64 z)) (hy : w.cell? ⟨xb, 1, none⟩ = some (.int .i64 y)) (hf : w.frozen? ⟨xb, 1, none⟩ = false) :
    Calls Try.prog 119 #[.pointer (some ⟨xb, 0, none⟩), .pointer (some ⟨q, 0, none⟩)] w fun e w' => e = .returned (.tuple #[]) ∧ w.setCell ⟨xb, 1, none⟩ (.int .i64 z) = w' := by
  go_enter Try.func119, Try.ntmps119
  go_wp2
  go_end0
  exact ⟨rfl, rfl⟩
set_option maxRecDepth 100000 in
set_option maxHeartbeats 1000000 in
theorem chain_change_dp (cb pb mb q : Nat) (Fp : List Nat) (s : PS VL) (i z : Int) (w : World) (h : PoolAt TL w pb mb Fp s) (hc : w.cell? ⟨cb, 1, none⟩ = some (.pointer (some ⟨pb, 0, none⟩))) (hz : w.cell? ⟨q, 1, none⟩ = some (.int .i64 z)) :
    Calls Try.prog 110 #[.pointer (some ⟨cb, 0, none⟩), .int .i64 i, .func (.func 119) #[] #[.pointer (some ⟨q, 0, none⟩)]] w fun e w' => e = .returned (.tuple #[]) ∧ PoolAt TL w' pb mb Fp (chg s i (setPrev z)) ∧ Mod Fp w w' := by
  have hcb : cb < w.heap.size := by simpa using World.block_lt_of_cell? w _ hc
  have hqb : q < w.heap.size := by simpa using World.block_lt_of_cell? w _ hz
  have hFp := h.lt
  cases hg : s.get i with
  | none =>
    have hp := pL_peek_no i h hg
    rw [chg_none hg]
    have H := Hidden.mk h
    clear h hg hFp
    go_enter Try.func110, Try.ntmps110
    go_wp2_with fail
    refine hp.mono ?_; clear hp; rintro e w1 ⟨rfl, hm⟩
    have HM := Hidden.mk hm
    clear hm
    go_wp2_with fail
    go_end0
    refine ⟨rfl, H.out.mod (HM.out.alloc _) (by simp), (HM.out.alloc _).mono (by simp)⟩
  | some v =>
    have hp := pL_peek_yes i h hg
    rw [chg_some hg]
    obtain ⟨_, hi0⟩ := PS.get_lt hg
    obtain ⟨j, rfl⟩ : ∃ q : Nat, i = q := ⟨i.toNat, by omega⟩
    simp only [Int.toNat_natCast]
    have hput := fun W (hW : Mod [] w W) => pL_put j (setPrev z v) (h.mod hW (by simp)) hg
    obtain ⟨v1, v2, v3⟩ := v
    simp only [setPrev] at hp hput ⊢
    clear h hg
    go_enter Try.func110, Try.ntmps110
    go_wp2_with fail
    refine hp.mono ?_; clear hp; rintro e w1 ⟨rfl, hm⟩
    have hcm := hm.size
    have hz1 : (w1.alloc (.cells #[.int .u64 v1, .int .i64 v2, .int .i64 v3] 121)).cell? ⟨q, 1, none⟩ = some (.int .i64 z) := ((hm.alloc _).below'.cell (p := ⟨q, 1, none⟩) hqb).trans hz
    have hc1 : w1.cell? ⟨cb, 1, none⟩ = some (.pointer (some ⟨pb, 0, none⟩)) := (hm.below'.cell (p := ⟨cb, 1, none⟩) hcb).trans hc
    have hcb1 : cb < w1.heap.size := by omega
    have HM := Hidden.mk (And.intro hm hFp)
    clear hm hFp
    go_wp2_with fail
    refine (chain_clo_dp _ q z _ _ hz1 ((Blk.new w1 121 #[.int .u64 v1, .int .i64 v2, .int .i64 v3]).cell 1) ((Blk.new w1 121 #[.int .u64 v1, .int .i64 v2, .int .i64 v3]).frozen 1)).mono ?_
    rintro e w2 ⟨rfl, hw2⟩
    have hX : Blk w2 w1.heap.size 121 (Array.setIfInBounds #[.int .u64 v1, .int .i64 v2, .int .i64 v3] 1 (.int .i64 z)) := hw2 ▸ (Blk.new w1 121 #[.int .u64 v1, .int .i64 v2, .int .i64 v3]).set 1 _
    have hM2 : Mod [] w w2 := hw2 ▸ ((HM.out.1.alloc _).set (.inr (by have := HM.out.1.size; simpa using this)) _)
    clear hw2 hz1
    have x0 := hX.cell 0
    have x1 := hX.cell 1
    have x2 := hX.cell 2
    simp at x0 x1 x2
    have hc2 : w2.cell? ⟨cb, 1, none⟩ = some (.pointer (some ⟨pb, 0, none⟩)) := (hM2.below'.cell (p := ⟨cb, 1, none⟩) hcb).trans hc
    have hxlt := hX.lt
    have HX := Hidden.mk hM2
    clear hX hM2
    go_wp2_with fail
    go_region_with (go_at_call 141; refine (hput _ (by first | exact HX.out | exact HX.out.drew | exact HX.out.drewN _)).mono ?_; rintro e w3 ⟨rfl, k1, k2⟩)
    all_goals
      have HK := Hidden.mk (And.intro k1 k2)
      clear k1 k2
      go_wp2_with fail
      go_end0
      exact ⟨rfl, HK.out.1, (HX.out.drew.mono (by simp)).trans HK.out.2 (fun x hx => .inl hx)⟩
end Go.Proofs.Ytfioekkegihkoaa
