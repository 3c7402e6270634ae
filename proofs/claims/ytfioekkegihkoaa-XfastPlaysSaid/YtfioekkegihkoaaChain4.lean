/- The chain in memory: Behind and Drop whole, Behind of a full chain; a chain of the call's own. -/
import Derived.Test.YtfioekkegihkoaaChain3
namespace Go.Proofs.Ytfioekkegihkoaa
open Go.RowKit
set_option linter.unusedVariables false
set_option linter.unusedSimpArgs false
section
variable {w : World} {cb mb limit : Nat} {F : List Nat} {fr : Bool} {A B : CL}
theorem chain_behind (k i : Int) (h : ChainAt w cb mb F limit fr (A ++ B)) (hi : i = lsC A (-1)) (hl : (A ++ B).length < limit) :
    Calls Try.prog 77 #[.pointer (some ⟨cb, 0, none⟩), .int .i64 i, .int .u64 k] w (BehindPost w cb mb F limit fr A B k) := by
  by_cases hA : A = []
  · by_cases hB : B = []
    · exact chain_behind_00 k i h hi hl hA hB
    · exact chain_behind_01 k i h hi hl hA hB
  · by_cases hB : B = []
    · exact chain_behind_10 k i h hi hl hA hB
    · exact chain_behind_11 k i h hi hl hA hB
theorem chain_drop {k : Int} {a : Nat} (h : ChainAt w cb mb F limit fr (A ++ (a, k) :: B)) :
    Calls Try.prog 82 #[.pointer (some ⟨cb, 0, none⟩), .int .i64 a] w fun e w' => e = .returned (.bool true) ∧ ∃ F', ChainAt w' cb mb F' limit false (A ++ B) ∧ Mod F w w' ∧ Fresh w F F' := by
  by_cases hA : A = []
  · by_cases hB : B = []
    · exact chain_drop_00 h hA hB
    · exact chain_drop_01 h hA hB
  · by_cases hB : B = []
    · exact chain_drop_10 h hA hB
    · exact chain_drop_11 h hA hB
end

set_option maxRecDepth 100000 in
set_option maxHeartbeats 2000000 in
theorem chain_behind_full0 {w : World} {cb mb limit : Nat} {F : List Nat} {fr : Bool} {A B : CL} (k i : Int) (h : ChainAt w cb mb F limit fr (A ++ B)) (hi : i = lsC A (-1)) (hl : limit ≤ (A ++ B).length) (hA : A = []) :
    Calls Try.prog 77 #[.pointer (some ⟨cb, 0, none⟩), .int .i64 i, .int .u64 k] w fun e w' => e = .returned (.tuple #[.int .i64 0, .bool false]) ∧ Mod [] w w' := by
  obtain ⟨pb, Fp, s, rfl, hb, hp, hn, hL, hlim, hfr⟩ := h
  have hcb := hb.lt
  have hns : ¬ s.live < s.limit := by rw [hL.live, hlim]; omega
  subst hA
  have hi' : i = -1 := hi
  clear hi
  subst hi'
  have hpk := fun W (hW : Mod [] w W) => pL_peek_no (-1) (hp.mod hW (by simp)) (PS.get_neg s (by omega))
  have hal : ∀ (v : VL) W, Mod [] w W → Calls Try.prog 109 #[.pointer (some ⟨pb, 0, none⟩), .agg #[.int .u64 v.1, .int .i64 v.2.1, .int .i64 v.2.2]] W fun e w' => e = .returned (.tuple #[.int .i64 0, .bool false]) ∧ Mod [] W w' := fun v W hW => by
    obtain ⟨cv, fv, rfl, h1⟩ := hp
    exact poolL_alloc_full pb mb cv fv s v W (h1.mod hW (by simp)) hns
  generalize hdC (_ ++ B) (-1) = f0 at hb
  generalize lsC (_ ++ B) (-1) = l0 at hb
  have c00 : w.cell? ⟨cb, 0, none⟩ = some (.pointer (some ⟨mb, 0, none⟩)) := hb.cell 0
  have c0f0 := hb.frozen 0
  have c01 : w.cell? ⟨cb, 1, none⟩ = some (.pointer (some ⟨pb, 0, none⟩)) := hb.cell 1
  have c0f1 := hb.frozen 1
  have c02 : w.cell? ⟨cb, 2, none⟩ = some (.int .i64 f0) := hb.cell 2
  have c0f2 := hb.frozen 2
  have c03 : w.cell? ⟨cb, 3, none⟩ = some (.int .i64 l0) := hb.cell 3
  have c0f3 := hb.frozen 3
  have c0l := hb.lt
  have HB := Hidden.mk hb
  clear hb hp hn hL hfr hl hlim hns
  go_enter Try.func77, Try.ntmps77
  go_wp2_with fail
  refine (hpk _ ((Mod.refl _ w).alloc _)).mono ?_; clear hpk; rintro e w1 ⟨rfl, hm1⟩
  have hM1 : Mod [] w w1 := ((Mod.refl _ w).alloc _).trans hm1 (by simp)
  have hX1 : Blk w1 w.heap.size 121 #[.int .u64 k, .int .i64 (-1), .int .i64 f0] := (Blk.new w _ _).mod hm1 (by simp)
  have hB1 := HB.out.mod hM1 (by simp)
  have x0 : w1.cell? ⟨w.heap.size, 0, none⟩ = some (.int .u64 k) := hX1.cell 0
  have xf0 := hX1.frozen 0
  have x1 : w1.cell? ⟨w.heap.size, 1, none⟩ = some (.int .i64 (-1)) := hX1.cell 1
  have xf1 := hX1.frozen 1
  have x2 : w1.cell? ⟨w.heap.size, 2, none⟩ = some (.int .i64 f0) := hX1.cell 2
  have xf2 := hX1.frozen 2
  have xl := hX1.lt
  have c0 : w1.cell? ⟨cb, 0, none⟩ = some (.pointer (some ⟨mb, 0, none⟩)) := hB1.cell 0
  have cf0 := hB1.frozen 0
  have c1 : w1.cell? ⟨cb, 1, none⟩ = some (.pointer (some ⟨pb, 0, none⟩)) := hB1.cell 1
  have cf1 := hB1.frozen 1
  have c2 : w1.cell? ⟨cb, 2, none⟩ = some (.int .i64 f0) := hB1.cell 2
  have cf2 := hB1.frozen 2
  have c3 : w1.cell? ⟨cb, 3, none⟩ = some (.int .i64 l0) := hB1.cell 3
  have cf3 := hB1.frozen 3
  have cl := hB1.lt
  go_upto_region 7 with fail
  obtain ⟨W7, hW7⟩ : ∃ W, (w1.alloc (.cells #[.int .u64 0, .int .i64 0, .int .i64 0] 121)) = W := ⟨_, rfl⟩
  have hM7 : Mod [] w W7 := by rw [← hW7]; exact hM1.alloc _
  have hX7 : Blk W7 w.heap.size 121 #[.int .u64 k, .int .i64 (-1), .int .i64 (f0)] := by rw [← hW7]; exact hX1.alloc _
  have hB7 := HB.out.mod hM7 (by simp)
  have x70 : W7.cell? ⟨w.heap.size, 0, none⟩ = some (.int .u64 k) := hX7.cell 0
  have x7f0 := hX7.frozen 0
  have x71 : W7.cell? ⟨w.heap.size, 1, none⟩ = some (.int .i64 (-1)) := hX7.cell 1
  have x7f1 := hX7.frozen 1
  have x72 : W7.cell? ⟨w.heap.size, 2, none⟩ = some (.int .i64 (f0)) := hX7.cell 2
  have x7f2 := hX7.frozen 2
  have x7l := hX7.lt
  have c70 : W7.cell? ⟨cb, 0, none⟩ = some (.pointer (some ⟨mb, 0, none⟩)) := hB7.cell 0
  have c7f0 := hB7.frozen 0
  have c71 : W7.cell? ⟨cb, 1, none⟩ = some (.pointer (some ⟨pb, 0, none⟩)) := hB7.cell 1
  have c7f1 := hB7.frozen 1
  have c72 : W7.cell? ⟨cb, 2, none⟩ = some (.int .i64 f0) := hB7.cell 2
  have c7f2 := hB7.frozen 2
  have c73 : W7.cell? ⟨cb, 3, none⟩ = some (.int .i64 l0) := hB7.cell 3
  have c7f3 := hB7.frozen 3
  have c7l := hB7.lt
  have HW7 := Hidden.mk hM7
  clear hM7 hX7 hB7 hm1 hX1 hB1 hM1
  simp only [hW7]
  clear hW7
  go_cut [11, 12] (fun q ok wx => ok = .bool false ∧ (∃ qb : Nat, q = .pointer (some ⟨qb, 0, none⟩)) ∧ Mod [] w wx)
  case first =>
    go_region_with (first | (go_at_call 109; refine (hal (_, _, _) _ HW7.out.drew).mono ?_; rintro e w2 ⟨rfl, k1⟩; have HK := Hidden.mk ((HW7.out.drew.trans k1 (by simp)).alloc (.cells #[.int .i64 0] 3)); clear k1) | (go_at_call 109; refine (hal (_, _, _) _ (HW7.out.alloc _).drew).mono ?_; rintro e w2 ⟨rfl, k1⟩; have HK := Hidden.mk (((HW7.out.alloc _).drew.trans k1 (by simp)).set (p := ⟨W7.heap.size, 0, none⟩) (.inr HW7.out.size) (.int .i64 0)); have hQ2 := ((Blk.new W7 3 #[.int .i64 0]).drew).mod k1 (by simp); have u0 : w2.cell? ⟨W7.heap.size, 0, none⟩ = some (.int .i64 0) := hQ2.cell 0; have uf0 := hQ2.frozen 0; have ul := hQ2.lt; clear k1 hQ2))
    all_goals
      go_wp2_with fail
      go_meet
      exact ⟨rfl, ⟨_, rfl⟩, HK.out⟩
  case rest =>
    obtain ⟨rfl, ⟨qb, rfl⟩, hZ⟩ := hcut
    have HZ := Hidden.mk hZ
    clear hZ
    go_wp2_with fail
    go_ret2
    exact ⟨rfl, HZ.out⟩

set_option maxRecDepth 100000 in
set_option maxHeartbeats 2000000 in
theorem chain_behind_full1 {w : World} {cb mb limit : Nat} {F : List Nat} {fr : Bool} {A B : CL} (k i : Int) (h : ChainAt w cb mb F limit fr (A ++ B)) (hi : i = lsC A (-1)) (hl : limit ≤ (A ++ B).length) (hA : A ≠ []) :
    Calls Try.prog 77 #[.pointer (some ⟨cb, 0, none⟩), .int .i64 i, .int .u64 k] w fun e w' => e = .returned (.tuple #[.int .i64 0, .bool false]) ∧ Mod [] w w' := by
  obtain ⟨pb, Fp, s, rfl, hb, hp, hn, hL, hlim, hfr⟩ := h
  have hcb := hb.lt
  have hns : ¬ s.live < s.limit := by rw [hL.live, hlim]; omega
  obtain ⟨a0, k0, p0, hla, hga⟩ := hL.seg.last hA
  generalize hdC B (-1) = n0 at hga
  have hi' : i = (a0 : Int) := by rw [hi]; exact hla
  clear hi
  subst hi'
  have hlv := fun W (hW : Mod [] w W) => pL_live (a0 : Int) (hp.mod hW (by simp))
  have hpk := fun W (hW : Mod [] w W) => pL_peek_yes (a0 : Int) (hp.mod hW (by simp)) hga
  rw [hga] at hlv
  simp only [Option.isSome_some] at hlv hpk
  have hal : ∀ (v : VL) W, Mod [] w W → Calls Try.prog 109 #[.pointer (some ⟨pb, 0, none⟩), .agg #[.int .u64 v.1, .int .i64 v.2.1, .int .i64 v.2.2]] W fun e w' => e = .returned (.tuple #[.int .i64 0, .bool false]) ∧ Mod [] W w' := fun v W hW => by
    obtain ⟨cv, fv, rfl, h1⟩ := hp
    exact poolL_alloc_full pb mb cv fv s v W (h1.mod hW (by simp)) hns
  generalize hdC (_ ++ B) (-1) = f0 at hb
  generalize lsC (_ ++ B) (-1) = l0 at hb
  have c00 : w.cell? ⟨cb, 0, none⟩ = some (.pointer (some ⟨mb, 0, none⟩)) := hb.cell 0
  have c0f0 := hb.frozen 0
  have c01 : w.cell? ⟨cb, 1, none⟩ = some (.pointer (some ⟨pb, 0, none⟩)) := hb.cell 1
  have c0f1 := hb.frozen 1
  have c02 : w.cell? ⟨cb, 2, none⟩ = some (.int .i64 f0) := hb.cell 2
  have c0f2 := hb.frozen 2
  have c03 : w.cell? ⟨cb, 3, none⟩ = some (.int .i64 l0) := hb.cell 3
  have c0f3 := hb.frozen 3
  have c0l := hb.lt
  have HB := Hidden.mk hb
  clear hb hp hn hL hfr hl hlim hns
  go_enter Try.func77, Try.ntmps77
  go_wp2_with fail
  refine (hlv _ (Mod.refl _ w)).mono ?_; clear hlv; rintro e w' ⟨rfl, rfl⟩
  go_wp2_with fail
  refine (hpk _ ((Mod.refl _ w).alloc _)).mono ?_; clear hpk; rintro e w1 ⟨rfl, hm1⟩
  have hM1 : Mod [] w w1 := ((Mod.refl _ w).alloc _).trans hm1 (by simp)
  have hX1 : Blk w1 w.heap.size 121 #[.int .u64 k, .int .i64 ((a0 : Int)), .int .i64 f0] := (Blk.new w _ _).mod hm1 (by simp)
  have hB1 := HB.out.mod hM1 (by simp)
  have x0 : w1.cell? ⟨w.heap.size, 0, none⟩ = some (.int .u64 k) := hX1.cell 0
  have xf0 := hX1.frozen 0
  have x1 : w1.cell? ⟨w.heap.size, 1, none⟩ = some (.int .i64 ((a0 : Int))) := hX1.cell 1
  have xf1 := hX1.frozen 1
  have x2 : w1.cell? ⟨w.heap.size, 2, none⟩ = some (.int .i64 f0) := hX1.cell 2
  have xf2 := hX1.frozen 2
  have xl := hX1.lt
  have c0 : w1.cell? ⟨cb, 0, none⟩ = some (.pointer (some ⟨mb, 0, none⟩)) := hB1.cell 0
  have cf0 := hB1.frozen 0
  have c1 : w1.cell? ⟨cb, 1, none⟩ = some (.pointer (some ⟨pb, 0, none⟩)) := hB1.cell 1
  have cf1 := hB1.frozen 1
  have c2 : w1.cell? ⟨cb, 2, none⟩ = some (.int .i64 f0) := hB1.cell 2
  have cf2 := hB1.frozen 2
  have c3 : w1.cell? ⟨cb, 3, none⟩ = some (.int .i64 l0) := hB1.cell 3
  have cf3 := hB1.frozen 3
  have cl := hB1.lt
  go_upto_region 7 with fail
  obtain ⟨W7, hW7⟩ : ∃ W, ((w1.setCell ⟨w.heap.size, 2, none⟩ (.int .i64 n0)).alloc (.cells #[.int .u64 k0, .int .i64 p0, .int .i64 n0] 121)) = W := ⟨_, rfl⟩
  have hM7 : Mod [] w W7 := by rw [← hW7]; exact (hM1.set (.inr (by simp)) _).alloc _
  have hX7 : Blk W7 w.heap.size 121 #[.int .u64 k, .int .i64 ((a0 : Int)), .int .i64 (n0)] := by rw [← hW7]; exact (hX1.set 2 _).alloc _
  have hB7 := HB.out.mod hM7 (by simp)
  have x70 : W7.cell? ⟨w.heap.size, 0, none⟩ = some (.int .u64 k) := hX7.cell 0
  have x7f0 := hX7.frozen 0
  have x71 : W7.cell? ⟨w.heap.size, 1, none⟩ = some (.int .i64 ((a0 : Int))) := hX7.cell 1
  have x7f1 := hX7.frozen 1
  have x72 : W7.cell? ⟨w.heap.size, 2, none⟩ = some (.int .i64 (n0)) := hX7.cell 2
  have x7f2 := hX7.frozen 2
  have x7l := hX7.lt
  have c70 : W7.cell? ⟨cb, 0, none⟩ = some (.pointer (some ⟨mb, 0, none⟩)) := hB7.cell 0
  have c7f0 := hB7.frozen 0
  have c71 : W7.cell? ⟨cb, 1, none⟩ = some (.pointer (some ⟨pb, 0, none⟩)) := hB7.cell 1
  have c7f1 := hB7.frozen 1
  have c72 : W7.cell? ⟨cb, 2, none⟩ = some (.int .i64 f0) := hB7.cell 2
  have c7f2 := hB7.frozen 2
  have c73 : W7.cell? ⟨cb, 3, none⟩ = some (.int .i64 l0) := hB7.cell 3
  have c7f3 := hB7.frozen 3
  have c7l := hB7.lt
  have HW7 := Hidden.mk hM7
  clear hM7 hX7 hB7 hm1 hX1 hB1 hM1
  simp only [hW7]
  clear hW7
  go_cut [11, 12] (fun q ok wx => ok = .bool false ∧ (∃ qb : Nat, q = .pointer (some ⟨qb, 0, none⟩)) ∧ Mod [] w wx)
  case first =>
    go_region_with (first | (go_at_call 109; refine (hal (_, _, _) _ HW7.out.drew).mono ?_; rintro e w2 ⟨rfl, k1⟩; have HK := Hidden.mk ((HW7.out.drew.trans k1 (by simp)).alloc (.cells #[.int .i64 0] 3)); clear k1) | (go_at_call 109; refine (hal (_, _, _) _ (HW7.out.alloc _).drew).mono ?_; rintro e w2 ⟨rfl, k1⟩; have HK := Hidden.mk (((HW7.out.alloc _).drew.trans k1 (by simp)).set (p := ⟨W7.heap.size, 0, none⟩) (.inr HW7.out.size) (.int .i64 0)); have hQ2 := ((Blk.new W7 3 #[.int .i64 0]).drew).mod k1 (by simp); have u0 : w2.cell? ⟨W7.heap.size, 0, none⟩ = some (.int .i64 0) := hQ2.cell 0; have uf0 := hQ2.frozen 0; have ul := hQ2.lt; clear k1 hQ2))
    all_goals
      go_wp2_with fail
      go_meet
      exact ⟨rfl, ⟨_, rfl⟩, HK.out⟩
  case rest =>
    obtain ⟨rfl, ⟨qb, rfl⟩, hZ⟩ := hcut
    have HZ := Hidden.mk hZ
    clear hZ
    go_wp2_with fail
    go_ret2
    exact ⟨rfl, HZ.out⟩

theorem chain_behind_full {w : World} {cb mb limit : Nat} {F : List Nat} {fr : Bool} {A B : CL} (k i : Int) (h : ChainAt w cb mb F limit fr (A ++ B)) (hi : i = lsC A (-1)) (hl : limit ≤ (A ++ B).length) :
    Calls Try.prog 77 #[.pointer (some ⟨cb, 0, none⟩), .int .i64 i, .int .u64 k] w fun e w' => e = .returned (.tuple #[.int .i64 0, .bool false]) ∧ Mod [] w w' := by
  by_cases hA : A = []
  · exact chain_behind_full0 k i h hi hl hA
  · exact chain_behind_full1 k i h hi hl hA
/-- A chain that the call itself has made; what lay there in w0 is as it was. -/
def CM (w0 w : World) (cb limit : Nat) (fr : Bool) (L : CL) : Prop := ∃ mb F, ChainAt w cb mb F limit fr L ∧ (∃ m, MeterAt w mb m) ∧ mb ∉ F ∧ w0.heap.size ≤ mb ∧ (∀ k ∈ F, w0.heap.size ≤ k) ∧ Below w0.heap.size w0 w
section
variable {w0 w w' : World} {cb limit a : Nat} {fr : Bool} {L A B : CL} {k : Int}
theorem CM.below (h : CM w0 w cb limit fr L) : Below w0.heap.size w0 w := by obtain ⟨mb, F, h1, h2, h3, h4, h5, h6⟩ := h; exact h6
theorem CM.mono (h : CM w0 w cb limit fr L) : CM w0 w cb limit false L := by obtain ⟨mb, F, h1, h2⟩ := h; exact ⟨mb, F, h1.mono, h2⟩
theorem CM.len (h : CM w0 w cb limit fr L) : L.length ≤ limit ∧ limit ≤ 1048576 := by obtain ⟨mb, F, h1, h2⟩ := h; exact h1.len
theorem CM.lt (h : CM w0 w cb limit fr L) : cb < w.heap.size := by obtain ⟨mb, F, h1, h2⟩ := h; exact h1.lt _ h1.head
theorem CM.ge (h : CM w0 w cb limit fr L) : w0.heap.size ≤ cb := by obtain ⟨mb, F, h1, h2, h3, h4, h5, h6⟩ := h; exact h5 _ h1.head
theorem CM.place (h : CM w0 w cb limit fr L) : ∀ e ∈ L, e.1 < 1048576 := by obtain ⟨mb, F, h1, h2⟩ := h; exact h1.place
theorem CM.mod0 (h : CM w0 w cb limit fr L) (hm : Mod [] w w') : CM w0 w' cb limit fr L := by
  obtain ⟨mb, F, h1, ⟨m, h2⟩, h3, h4, h5, h6⟩ := h
  exact ⟨mb, F, h1.mod hm (by simp), ⟨m, h2.mod hm (by simp)⟩, h3, h4, h5, h6.trans (hm.below h6.size (by simp))⟩
/-- What turns only other blocks of the call's own. -/
theorem cm_new (limit : Nat) (hb : Below w0.heap.size w0 w) (hl : limit ≤ 1048576) :
    Calls Try.prog 53 #[.pointer none, .int .i64 limit] w fun e w' => ∃ cb, e = .returned (.tuple #[.pointer (some ⟨cb, 0, none⟩), .int .i64 0]) ∧ CM w0 w' cb limit true [] := by
  refine (chain_new_nil limit w hl).mono ?_
  rintro e w' ⟨cb, mb, F, rfl, h1, h2, h3, h4, h5, h6⟩
  have := hb.size
  exact ⟨cb, rfl, mb, F, h1, ⟨_, h2⟩, h3, by omega, fun k hk => by have := h6 k hk; omega, hb.trans (h4.below hb.size (by simp))⟩
theorem CM.turn {mb : Nat} {F F' : List Nat} {L' : CL} {fr' : Bool} (h1 : ChainAt w cb mb F limit fr L) (h2 : ∃ m, MeterAt w mb m) (h3 : mb ∉ F) (h4 : w0.heap.size ≤ mb) (h5 : ∀ k ∈ F, w0.heap.size ≤ k) (h6 : Below w0.heap.size w0 w)
    (k1 : ChainAt w' cb mb F' limit fr' L') (k2 : Mod F w w') (k3 : Fresh w F F') : CM w0 w' cb limit fr' L' := by
  obtain ⟨m, h2⟩ := h2
  exact ⟨mb, F', k1, ⟨m, h2.mod k2 h3⟩, k3.not_mem h2.lt h3, h4, k3.ge h6.size h5, h6.trans (k2.below h6.size h5)⟩
theorem cm_behind (k i : Int) (h : CM w0 w cb limit fr (A ++ B)) (hi : i = lsC A (-1)) (hl : (A ++ B).length < limit) :
    Calls Try.prog 77 #[.pointer (some ⟨cb, 0, none⟩), .int .i64 i, .int .u64 k] w fun e w' => ∃ a : Nat, e = .returned (.tuple #[.int .i64 a, .bool true]) ∧ CM w0 w' cb limit fr (A ++ (a, k) :: B) ∧ (fr = true → a = (A ++ B).length) := by
  obtain ⟨mb, F, h1, h2, h3, h4, h5, h6⟩ := h
  refine (chain_behind k i h1 hi hl).mono ?_
  rintro e w' ⟨a, F', rfl, k1, k2, k3, k4⟩
  exact ⟨a, rfl, CM.turn h1 h2 h3 h4 h5 h6 k1 k2 k3, k4⟩
theorem cm_full (k i : Int) (h : CM w0 w cb limit fr (A ++ B)) (hi : i = lsC A (-1)) (hl : limit ≤ (A ++ B).length) :
    Calls Try.prog 77 #[.pointer (some ⟨cb, 0, none⟩), .int .i64 i, .int .u64 k] w fun e w' => e = .returned (.tuple #[.int .i64 0, .bool false]) ∧ CM w0 w' cb limit fr (A ++ B) := by
  have h0 := h
  obtain ⟨mb, F, h1, h2, h3, h4, h5, h6⟩ := h
  refine (chain_behind_full k i h1 hi hl).mono ?_
  rintro e w' ⟨rfl, hm⟩
  exact ⟨rfl, h0.mod0 hm⟩
theorem cm_drop (h : CM w0 w cb limit fr (A ++ (a, k) :: B)) :
    Calls Try.prog 82 #[.pointer (some ⟨cb, 0, none⟩), .int .i64 a] w fun e w' => e = .returned (.bool true) ∧ CM w0 w' cb limit false (A ++ B) := by
  obtain ⟨mb, F, h1, h2, h3, h4, h5, h6⟩ := h
  refine (chain_drop h1).mono ?_
  rintro e w' ⟨rfl, F', k1, k2, k3⟩
  exact ⟨rfl, CM.turn h1 h2 h3 h4 h5 h6 k1 k2 k3⟩
theorem CM.read {mb : Nat} {F : List Nat} {m : Mt} (h1 : ChainAt w cb mb F limit fr L) (h3 : mb ∉ F) (h4 : w0.heap.size ≤ mb) (h5 : ∀ k ∈ F, w0.heap.size ≤ k) (h6 : Below w0.heap.size w0 w) (k1 : MeterAt w' mb m) (k2 : Mod [mb] w w') : CM w0 w' cb limit fr L :=
  ⟨mb, F, h1.mod k2 (by simpa using h3), ⟨_, k1⟩, h3, h4, h5, h6.trans (k2.below h6.size (by simpa using h4))⟩
theorem cm_key (h : CM w0 w cb limit fr (A ++ (a, k) :: B)) :
    Calls Try.prog 98 #[.pointer (some ⟨cb, 0, none⟩), .int .i64 a] w fun e w' => e = .returned (.tuple #[.int .u64 k, .bool true]) ∧ CM w0 w' cb limit fr (A ++ (a, k) :: B) := by
  obtain ⟨mb, F, h1, ⟨m, h2⟩, h3, h4, h5, h6⟩ := h
  refine (chain_key_yes h1 h2 h3).mono ?_
  rintro e w' ⟨rfl, k1, k2⟩
  exact ⟨rfl, CM.read h1 h3 h4 h5 h6 k1 k2⟩
theorem cm_first (h : CM w0 w cb limit fr L) : Calls Try.prog 83 #[.pointer (some ⟨cb, 0, none⟩)] w fun e w' => e = .returned (.int .i64 (hdC L (-1))) ∧ w = w' := by
  obtain ⟨mb, F, h1, _⟩ := h; exact chain_first h1
theorem cm_last (h : CM w0 w cb limit fr L) : Calls Try.prog 84 #[.pointer (some ⟨cb, 0, none⟩)] w fun e w' => e = .returned (.int .i64 (lsC L (-1))) ∧ w = w' := by
  obtain ⟨mb, F, h1, _⟩ := h; exact chain_last h1
theorem cm_len (h : CM w0 w cb limit fr L) : Calls Try.prog 86 #[.pointer (some ⟨cb, 0, none⟩)] w fun e w' => e = .returned (.int .i64 L.length) ∧ w = w' := by
  obtain ⟨mb, F, h1, _⟩ := h; exact chain_len h1
theorem cm_next (h : CM w0 w cb limit fr (A ++ (a, k) :: B)) :
    Calls Try.prog 61 #[.pointer (some ⟨cb, 0, none⟩), .int .i64 a] w fun e w' => e = .returned (.int .i64 (hdC B (-1))) ∧ CM w0 w' cb limit fr (A ++ (a, k) :: B) := by
  obtain ⟨mb, F, h1, ⟨m, h2⟩, h3, h4, h5, h6⟩ := h
  refine (chain_next_yes h1 h2 h3).mono ?_
  rintro e w' ⟨rfl, k1, k2⟩
  exact ⟨rfl, CM.read h1 h3 h4 h5 h6 k1 k2⟩
theorem cm_prev (h : CM w0 w cb limit fr (A ++ (a, k) :: B)) :
    Calls Try.prog 60 #[.pointer (some ⟨cb, 0, none⟩), .int .i64 a] w fun e w' => e = .returned (.int .i64 (lsC A (-1))) ∧ CM w0 w' cb limit fr (A ++ (a, k) :: B) := by
  obtain ⟨mb, F, h1, ⟨m, h2⟩, h3, h4, h5, h6⟩ := h
  refine (chain_prev_yes h1 h2 h3).mono ?_
  rintro e w' ⟨rfl, k1, k2⟩
  exact ⟨rfl, CM.read h1 h3 h4 h5 h6 k1 k2⟩
end
end Go.Proofs.Ytfioekkegihkoaa
