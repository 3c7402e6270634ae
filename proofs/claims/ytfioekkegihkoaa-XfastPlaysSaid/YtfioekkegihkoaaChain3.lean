/- The chain in memory: Drop, reads, a nil one. -/
import Derived.Test.YtfioekkegihkoaaChain2
namespace Go.Proofs.Ytfioekkegihkoaa
open Go.RowKit
set_option linter.unusedVariables false
set_option linter.unusedSimpArgs false

set_option maxRecDepth 100000 in
set_option maxHeartbeats 2000000 in
theorem chain_drop_00 {w : World} {cb mb limit : Nat} {F : List Nat} {fr : Bool} {A B : CL} {k : Int} {a : Nat} (h : ChainAt w cb mb F limit fr (A ++ (a, k) :: B)) (hA : A = []) (hB : B = []) :
    Calls Try.prog 82 #[.pointer (some ⟨cb, 0, none⟩), .int .i64 a] w fun e w' => e = .returned (.bool true) ∧ ∃ F', ChainAt w' cb mb F' limit false (A ++ B) ∧ Mod F w w' ∧ Fresh w F F' := by
  subst hA
  have ep : lsC ([] : CL) (-1) = -1 := rfl
  have ef : hdC ([] ++ (a, k) :: B) (-1) = (a : Int) := rfl
  subst hB
  have en : hdC ([] : CL) (-1) = -1 := rfl
  have el : lsC ([] ++ [(a, k)]) (-1) = (a : Int) := lsC_snoc _ _ _
  have eh : lsC (([] : CL) ++ []) (-1) = -1 := by rw [List.append_nil]; exact ep
  have eg : hdC (([] : CL) ++ []) (-1) = -1 := en
  obtain ⟨pb, Fp, s, rfl, hb, hp, hn, hL, hlim, hfr⟩ := h
  obtain ⟨hD, hg, hg2⟩ := hL.drop
  have hcb := hb.lt
  have hFp := hp.lt
  have hpk := pL_peek_yes (a : Int) hp hg
  have hlim2 : ((chg (chg s (lsC ([] : CL) (-1)) (setNext (hdC ([] : CL) (-1)))) (hdC ([] : CL) (-1)) (setPrev (lsC ([] : CL) (-1)))).drop a).limit = limit := by show (chg _ _ _).limit = _; rw [chg_limit, chg_limit, hlim]
  rw [ep, en] at hD hg2 hpk hlim2
  rw [ef, el] at hb
  simp only at hpk
  have HD := Hidden.mk (And.intro hD (And.intro hg2 (And.intro hlim2 (And.intro hFp hn))))
  have HP := Hidden.mk hp
  have c00 : w.cell? ⟨cb, 0, none⟩ = some (.pointer (some ⟨mb, 0, none⟩)) := hb.cell 0
  have c0f0 := hb.frozen 0
  have c01 : w.cell? ⟨cb, 1, none⟩ = some (.pointer (some ⟨pb, 0, none⟩)) := hb.cell 1
  have c0f1 := hb.frozen 1
  have c02 : w.cell? ⟨cb, 2, none⟩ = some (.int .i64 ((a : Int))) := hb.cell 2
  have c0f2 := hb.frozen 2
  have c03 : w.cell? ⟨cb, 3, none⟩ = some (.int .i64 ((a : Int))) := hb.cell 3
  have c0f3 := hb.frozen 3
  have c0l := hb.lt
  have HB := Hidden.mk hb
  clear hb hp hn hL hD hg hg2 hFp hfr hlim hlim2
  clear ep ef en el
  have HE := Hidden.mk (And.intro eg eh)
  clear eg eh
  go_enter Try.func82, Try.ntmps82
  go_wp2_with fail
  refine hpk.mono ?_; clear hpk; rintro e w1 ⟨rfl, hm1⟩
  have hB1 := HB.out.mod hm1 (by simp)
  have hX1 := Blk.new w1 121 #[.int .u64 k, .int .i64 (-1), .int .i64 (-1)]
  have hM1 := hm1.alloc (.cells #[.int .u64 k, .int .i64 (-1), .int .i64 (-1)] 121)
  have hch1 := chain_change_dn cb pb mb w1.heap.size Fp s (-1) (-1) _ (HP.out.mod hM1 (by simp)) ((hB1.alloc _).cell 1) (hX1.cell 2)
  have hw1l := hB1.lt
  have H1 := Hidden.mk (And.intro hX1 (And.intro hB1 (And.intro hM1 (show w.heap.size ≤ w1.heap.size from hm1.size))))
  clear hX1 hB1 hM1 hm1
  go_wp2_with fail
  refine hch1.mono ?_; clear hch1; rintro e w3 ⟨rfl, p3, m3⟩
  have hxF : w1.heap.size ∉ Fp := fun hk => by have h1 := HD.out.2.2.2.1 _ hk; have h2 := H1.out.2.2.2; omega
  have hX3 := H1.out.1.mod m3 hxF
  have hB3 := (H1.out.2.1.alloc _).mod m3 HD.out.2.2.2.2
  have x30 : w3.cell? ⟨w1.heap.size, 0, none⟩ = some (.int .u64 k) := hX3.cell 0
  have x3f0 := hX3.frozen 0
  have x31 : w3.cell? ⟨w1.heap.size, 1, none⟩ = some (.int .i64 (-1)) := hX3.cell 1
  have x3f1 := hX3.frozen 1
  have x32 : w3.cell? ⟨w1.heap.size, 2, none⟩ = some (.int .i64 (-1)) := hX3.cell 2
  have x3f2 := hX3.frozen 2
  have x3l := hX3.lt
  have c30 : w3.cell? ⟨cb, 0, none⟩ = some (.pointer (some ⟨mb, 0, none⟩)) := hB3.cell 0
  have c3f0 := hB3.frozen 0
  have c31 : w3.cell? ⟨cb, 1, none⟩ = some (.pointer (some ⟨pb, 0, none⟩)) := hB3.cell 1
  have c3f1 := hB3.frozen 1
  have c32 : w3.cell? ⟨cb, 2, none⟩ = some (.int .i64 ((a : Int))) := hB3.cell 2
  have c3f2 := hB3.frozen 2
  have c33 : w3.cell? ⟨cb, 3, none⟩ = some (.int .i64 ((a : Int))) := hB3.cell 3
  have c3f3 := hB3.frozen 3
  have c3l := hB3.lt
  have hch2 := chain_change_dp cb pb mb w1.heap.size Fp _ (-1) (-1) w3 p3 (hB3.cell 1) (hX3.cell 1)
  have H3 := Hidden.mk (And.intro hX3 (And.intro hB3 m3))
  have HX := Hidden.mk hxF
  clear hX3 hB3 m3 p3 hxF
  go_wp2_with fail
  refine hch2.mono ?_; clear hch2; rintro e w4 ⟨rfl, p4, m4⟩
  have hX4 := H3.out.1.mod m4 HX.out
  have hB4 := H3.out.2.1.mod m4 HD.out.2.2.2.2
  have x40 : w4.cell? ⟨w1.heap.size, 0, none⟩ = some (.int .u64 k) := hX4.cell 0
  have x4f0 := hX4.frozen 0
  have x41 : w4.cell? ⟨w1.heap.size, 1, none⟩ = some (.int .i64 (-1)) := hX4.cell 1
  have x4f1 := hX4.frozen 1
  have x42 : w4.cell? ⟨w1.heap.size, 2, none⟩ = some (.int .i64 (-1)) := hX4.cell 2
  have x4f2 := hX4.frozen 2
  have x4l := hX4.lt
  have c40 : w4.cell? ⟨cb, 0, none⟩ = some (.pointer (some ⟨mb, 0, none⟩)) := hB4.cell 0
  have c4f0 := hB4.frozen 0
  have c41 : w4.cell? ⟨cb, 1, none⟩ = some (.pointer (some ⟨pb, 0, none⟩)) := hB4.cell 1
  have c4f1 := hB4.frozen 1
  have c42 : w4.cell? ⟨cb, 2, none⟩ = some (.int .i64 ((a : Int))) := hB4.cell 2
  have c4f2 := hB4.frozen 2
  have c43 : w4.cell? ⟨cb, 3, none⟩ = some (.int .i64 ((a : Int))) := hB4.cell 3
  have c4f3 := hB4.frozen 3
  have c4l := hB4.lt
  have hcF : ∀ k ∈ [cb], k ∉ Fp := by simpa using HD.out.2.2.2.2
  have hfree := pL_free a (p4.mod (S := [cb]) (w' := ((w4.setCell ⟨cb, 2, none⟩ (.int .i64 (-1))).setCell ⟨cb, 3, none⟩ (.int .i64 (-1)))) (by exact (((Mod.refl [cb] w4).set (.inl (by simp)) _).set (.inl (by simp)) _)) hcF) HD.out.2.1
  have H4 := Hidden.mk (And.intro hB4 m4)
  clear hX4 hB4 m4 p4 hcF
  go_wp2_with fail
  refine hfree.mono ?_; clear hfree; rintro e w5 ⟨rfl, Fq, k1, k2, k3⟩
  have HK := Hidden.mk (And.intro k1 (And.intro k2 k3))
  clear k1 k2 k3
  go_wp2_with fail
  go_ret
  have hM4 : Mod (cb :: Fp) w w4 := ((H1.out.2.2.1.mono (by simp)).trans H3.out.2.2 (fun x hx => .inl (by simp [hx]))).trans H4.out.2 (fun x hx => .inl (by simp [hx]))
  have hM5 : Mod (cb :: Fp) w ((w4.setCell ⟨cb, 2, none⟩ (.int .i64 (-1))).setCell ⟨cb, 3, none⟩ (.int .i64 (-1))) := by exact ((hM4.set (.inl (by simp)) _).set (.inl (by simp)) _)
  have hcbw4 := H4.out.1.lt
  have hfr := HK.out.2.2.weak hM5.size
  refine ⟨rfl, cb :: Fq, ⟨pb, Fq, _, rfl, ?_, HK.out.1, hfr.not_mem hcb HD.out.2.2.2.2, HD.out.1, HD.out.2.2.1, by simp⟩, hM5.trans HK.out.2.1 (fun x hx => .inl (by simp [hx])), ?_⟩
  · show Blk w5 cb _ #[_, _, .int .i64 (hdC (([] : CL) ++ ([] : CL)) (-1)), .int .i64 (lsC (([] : CL) ++ ([] : CL)) (-1))]
    rw [HE.out.1, HE.out.2]
    exact Blk.mod (w := ((w4.setCell ⟨cb, 2, none⟩ (.int .i64 (-1))).setCell ⟨cb, 3, none⟩ (.int .i64 (-1)))) (by exact ((H4.out.1.set 2 _).set 3 _)) HK.out.2.1 HD.out.2.2.2.2
  · intro x hx
    rcases List.mem_cons.1 hx with rfl | hx
    · exact .inl (by simp)
    · exact (hfr x hx).imp (fun h => by simp [h]) id

set_option maxRecDepth 100000 in
set_option maxHeartbeats 2000000 in
theorem chain_drop_01 {w : World} {cb mb limit : Nat} {F : List Nat} {fr : Bool} {A B : CL} {k : Int} {a : Nat} (h : ChainAt w cb mb F limit fr (A ++ (a, k) :: B)) (hA : A = []) (hB : B ≠ []) :
    Calls Try.prog 82 #[.pointer (some ⟨cb, 0, none⟩), .int .i64 a] w fun e w' => e = .returned (.bool true) ∧ ∃ F', ChainAt w' cb mb F' limit false (A ++ B) ∧ Mod F w w' ∧ Fresh w F F' := by
  subst hA
  have ep : lsC ([] : CL) (-1) = -1 := rfl
  have ef : hdC ([] ++ (a, k) :: B) (-1) = (a : Int) := rfl
  obtain ⟨n0, en⟩ := hdC_nat hB (-1)
  obtain ⟨l0, el0⟩ : ∃ l0 : Nat, lsC B (-1) = l0 := by obtain ⟨e, _, he⟩ := lsC_mem hB (-1); exact ⟨e.1, he⟩
  have el : lsC ([] ++ (a, k) :: B) (-1) = (l0 : Int) := by rw [lsC_app, ← el0]; show lsC B _ = _; exact lsC_ne hB _ _
  have eh : lsC ([] ++ B) (-1) = (l0 : Int) := by rw [lsC_app, ← el0]; exact lsC_ne hB _ _
  have hne2 : ((l0 : Int) == (a : Int)) = false := by
    obtain ⟨e, he, hh⟩ := lsC_mem hB (-1)
    have : e.1 ≠ a := by have := h.nodup; rw [List.map_append, List.map_cons, List.nodup_append, List.nodup_cons] at this; intro hq; exact this.2.1.1 (List.mem_map.2 ⟨e, he, hq⟩)
    simp; omega
  have eg : hdC (([] : CL) ++ B) (-1) = (n0 : Int) := en
  obtain ⟨pb, Fp, s, rfl, hb, hp, hn, hL, hlim, hfr⟩ := h
  obtain ⟨hD, hg, hg2⟩ := hL.drop
  have hcb := hb.lt
  have hFp := hp.lt
  have hpk := pL_peek_yes (a : Int) hp hg
  have hlim2 : ((chg (chg s (lsC ([] : CL) (-1)) (setNext (hdC B (-1)))) (hdC B (-1)) (setPrev (lsC ([] : CL) (-1)))).drop a).limit = limit := by show (chg _ _ _).limit = _; rw [chg_limit, chg_limit, hlim]
  rw [ep, en] at hD hg2 hpk hlim2
  rw [ef, el] at hb
  simp only at hpk
  have HD := Hidden.mk (And.intro hD (And.intro hg2 (And.intro hlim2 (And.intro hFp hn))))
  have HP := Hidden.mk hp
  have c00 : w.cell? ⟨cb, 0, none⟩ = some (.pointer (some ⟨mb, 0, none⟩)) := hb.cell 0
  have c0f0 := hb.frozen 0
  have c01 : w.cell? ⟨cb, 1, none⟩ = some (.pointer (some ⟨pb, 0, none⟩)) := hb.cell 1
  have c0f1 := hb.frozen 1
  have c02 : w.cell? ⟨cb, 2, none⟩ = some (.int .i64 ((a : Int))) := hb.cell 2
  have c0f2 := hb.frozen 2
  have c03 : w.cell? ⟨cb, 3, none⟩ = some (.int .i64 ((l0 : Int))) := hb.cell 3
  have c0f3 := hb.frozen 3
  have c0l := hb.lt
  have HB := Hidden.mk hb
  clear hb hp hn hL hD hg hg2 hFp hfr hlim hlim2
  clear ep ef en el
  have HE := Hidden.mk (And.intro eg eh)
  clear eg eh
  go_enter Try.func82, Try.ntmps82
  go_wp2_with fail
  refine hpk.mono ?_; clear hpk; rintro e w1 ⟨rfl, hm1⟩
  have hB1 := HB.out.mod hm1 (by simp)
  have hX1 := Blk.new w1 121 #[.int .u64 k, .int .i64 (-1), .int .i64 ((n0 : Int))]
  have hM1 := hm1.alloc (.cells #[.int .u64 k, .int .i64 (-1), .int .i64 ((n0 : Int))] 121)
  have hch1 := chain_change_dn cb pb mb w1.heap.size Fp s (-1) ((n0 : Int)) _ (HP.out.mod hM1 (by simp)) ((hB1.alloc _).cell 1) (hX1.cell 2)
  have hw1l := hB1.lt
  have H1 := Hidden.mk (And.intro hX1 (And.intro hB1 (And.intro hM1 (show w.heap.size ≤ w1.heap.size from hm1.size))))
  clear hX1 hB1 hM1 hm1
  go_wp2_with fail
  refine hch1.mono ?_; clear hch1; rintro e w3 ⟨rfl, p3, m3⟩
  have hxF : w1.heap.size ∉ Fp := fun hk => by have h1 := HD.out.2.2.2.1 _ hk; have h2 := H1.out.2.2.2; omega
  have hX3 := H1.out.1.mod m3 hxF
  have hB3 := (H1.out.2.1.alloc _).mod m3 HD.out.2.2.2.2
  have x30 : w3.cell? ⟨w1.heap.size, 0, none⟩ = some (.int .u64 k) := hX3.cell 0
  have x3f0 := hX3.frozen 0
  have x31 : w3.cell? ⟨w1.heap.size, 1, none⟩ = some (.int .i64 (-1)) := hX3.cell 1
  have x3f1 := hX3.frozen 1
  have x32 : w3.cell? ⟨w1.heap.size, 2, none⟩ = some (.int .i64 ((n0 : Int))) := hX3.cell 2
  have x3f2 := hX3.frozen 2
  have x3l := hX3.lt
  have c30 : w3.cell? ⟨cb, 0, none⟩ = some (.pointer (some ⟨mb, 0, none⟩)) := hB3.cell 0
  have c3f0 := hB3.frozen 0
  have c31 : w3.cell? ⟨cb, 1, none⟩ = some (.pointer (some ⟨pb, 0, none⟩)) := hB3.cell 1
  have c3f1 := hB3.frozen 1
  have c32 : w3.cell? ⟨cb, 2, none⟩ = some (.int .i64 ((a : Int))) := hB3.cell 2
  have c3f2 := hB3.frozen 2
  have c33 : w3.cell? ⟨cb, 3, none⟩ = some (.int .i64 ((l0 : Int))) := hB3.cell 3
  have c3f3 := hB3.frozen 3
  have c3l := hB3.lt
  have hch2 := chain_change_dp cb pb mb w1.heap.size Fp _ ((n0 : Int)) (-1) w3 p3 (hB3.cell 1) (hX3.cell 1)
  have H3 := Hidden.mk (And.intro hX3 (And.intro hB3 m3))
  have HX := Hidden.mk hxF
  clear hX3 hB3 m3 p3 hxF
  go_wp2_with fail
  refine hch2.mono ?_; clear hch2; rintro e w4 ⟨rfl, p4, m4⟩
  have hX4 := H3.out.1.mod m4 HX.out
  have hB4 := H3.out.2.1.mod m4 HD.out.2.2.2.2
  have x40 : w4.cell? ⟨w1.heap.size, 0, none⟩ = some (.int .u64 k) := hX4.cell 0
  have x4f0 := hX4.frozen 0
  have x41 : w4.cell? ⟨w1.heap.size, 1, none⟩ = some (.int .i64 (-1)) := hX4.cell 1
  have x4f1 := hX4.frozen 1
  have x42 : w4.cell? ⟨w1.heap.size, 2, none⟩ = some (.int .i64 ((n0 : Int))) := hX4.cell 2
  have x4f2 := hX4.frozen 2
  have x4l := hX4.lt
  have c40 : w4.cell? ⟨cb, 0, none⟩ = some (.pointer (some ⟨mb, 0, none⟩)) := hB4.cell 0
  have c4f0 := hB4.frozen 0
  have c41 : w4.cell? ⟨cb, 1, none⟩ = some (.pointer (some ⟨pb, 0, none⟩)) := hB4.cell 1
  have c4f1 := hB4.frozen 1
  have c42 : w4.cell? ⟨cb, 2, none⟩ = some (.int .i64 ((a : Int))) := hB4.cell 2
  have c4f2 := hB4.frozen 2
  have c43 : w4.cell? ⟨cb, 3, none⟩ = some (.int .i64 ((l0 : Int))) := hB4.cell 3
  have c4f3 := hB4.frozen 3
  have c4l := hB4.lt
  have hcF : ∀ k ∈ [cb], k ∉ Fp := by simpa using HD.out.2.2.2.2
  have hfree := pL_free a (p4.mod (S := [cb]) (w' := (w4.setCell ⟨cb, 2, none⟩ (.int .i64 ((n0 : Int))))) (by exact ((Mod.refl [cb] w4).set (.inl (by simp)) _)) hcF) HD.out.2.1
  have H4 := Hidden.mk (And.intro hB4 m4)
  clear hX4 hB4 m4 p4 hcF
  go_wp2_with fail
  refine hfree.mono ?_; clear hfree; rintro e w5 ⟨rfl, Fq, k1, k2, k3⟩
  have HK := Hidden.mk (And.intro k1 (And.intro k2 k3))
  clear k1 k2 k3
  go_wp2_with fail
  go_ret
  have hM4 : Mod (cb :: Fp) w w4 := ((H1.out.2.2.1.mono (by simp)).trans H3.out.2.2 (fun x hx => .inl (by simp [hx]))).trans H4.out.2 (fun x hx => .inl (by simp [hx]))
  have hM5 : Mod (cb :: Fp) w (w4.setCell ⟨cb, 2, none⟩ (.int .i64 ((n0 : Int)))) := by exact (hM4.set (.inl (by simp)) _)
  have hcbw4 := H4.out.1.lt
  have hfr := HK.out.2.2.weak hM5.size
  refine ⟨rfl, cb :: Fq, ⟨pb, Fq, _, rfl, ?_, HK.out.1, hfr.not_mem hcb HD.out.2.2.2.2, HD.out.1, HD.out.2.2.1, by simp⟩, hM5.trans HK.out.2.1 (fun x hx => .inl (by simp [hx])), ?_⟩
  · show Blk w5 cb _ #[_, _, .int .i64 (hdC (([] : CL) ++ B) (-1)), .int .i64 (lsC (([] : CL) ++ B) (-1))]
    rw [HE.out.1, HE.out.2]
    exact Blk.mod (w := (w4.setCell ⟨cb, 2, none⟩ (.int .i64 ((n0 : Int))))) (by exact (H4.out.1.set 2 _)) HK.out.2.1 HD.out.2.2.2.2
  · intro x hx
    rcases List.mem_cons.1 hx with rfl | hx
    · exact .inl (by simp)
    · exact (hfr x hx).imp (fun h => by simp [h]) id

set_option maxRecDepth 100000 in
set_option maxHeartbeats 2000000 in
theorem chain_drop_10 {w : World} {cb mb limit : Nat} {F : List Nat} {fr : Bool} {A B : CL} {k : Int} {a : Nat} (h : ChainAt w cb mb F limit fr (A ++ (a, k) :: B)) (hA : A ≠ []) (hB : B = []) :
    Calls Try.prog 82 #[.pointer (some ⟨cb, 0, none⟩), .int .i64 a] w fun e w' => e = .returned (.bool true) ∧ ∃ F', ChainAt w' cb mb F' limit false (A ++ B) ∧ Mod F w w' ∧ Fresh w F F' := by
  obtain ⟨p0, ep⟩ : ∃ p0 : Nat, lsC A (-1) = p0 := by obtain ⟨e, _, he⟩ := lsC_mem hA (-1); exact ⟨e.1, he⟩
  obtain ⟨f0, ef0⟩ := hdC_nat hA (-1)
  have ef : hdC (A ++ (a, k) :: B) (-1) = (f0 : Int) := by rw [hdC_app, ← ef0]; exact hdC_ne hA _ _
  have eg : hdC (A ++ B) (-1) = (f0 : Int) := by rw [hdC_app, ← ef0]; exact hdC_ne hA _ _
  have hne1 : ((f0 : Int) == (a : Int)) = false := by
    obtain ⟨e, he, hh⟩ := hdC_mem hA (-1)
    have : e.1 ≠ a := by have := h.nodup; rw [List.map_append, List.map_cons, List.nodup_append] at this; exact this.2.2 e.1 (List.mem_map.2 ⟨e, he, rfl⟩) a (by simp)
    simp; omega
  subst hB
  have en : hdC ([] : CL) (-1) = -1 := rfl
  have el : lsC (A ++ [(a, k)]) (-1) = (a : Int) := lsC_snoc _ _ _
  have eh : lsC (A ++ []) (-1) = (p0 : Int) := by rw [List.append_nil]; exact ep
  obtain ⟨pb, Fp, s, rfl, hb, hp, hn, hL, hlim, hfr⟩ := h
  obtain ⟨hD, hg, hg2⟩ := hL.drop
  have hcb := hb.lt
  have hFp := hp.lt
  have hpk := pL_peek_yes (a : Int) hp hg
  have hlim2 : ((chg (chg s (lsC A (-1)) (setNext (hdC ([] : CL) (-1)))) (hdC ([] : CL) (-1)) (setPrev (lsC A (-1)))).drop a).limit = limit := by show (chg _ _ _).limit = _; rw [chg_limit, chg_limit, hlim]
  rw [ep, en] at hD hg2 hpk hlim2
  rw [ef, el] at hb
  simp only at hpk
  have HD := Hidden.mk (And.intro hD (And.intro hg2 (And.intro hlim2 (And.intro hFp hn))))
  have HP := Hidden.mk hp
  have c00 : w.cell? ⟨cb, 0, none⟩ = some (.pointer (some ⟨mb, 0, none⟩)) := hb.cell 0
  have c0f0 := hb.frozen 0
  have c01 : w.cell? ⟨cb, 1, none⟩ = some (.pointer (some ⟨pb, 0, none⟩)) := hb.cell 1
  have c0f1 := hb.frozen 1
  have c02 : w.cell? ⟨cb, 2, none⟩ = some (.int .i64 ((f0 : Int))) := hb.cell 2
  have c0f2 := hb.frozen 2
  have c03 : w.cell? ⟨cb, 3, none⟩ = some (.int .i64 ((a : Int))) := hb.cell 3
  have c0f3 := hb.frozen 3
  have c0l := hb.lt
  have HB := Hidden.mk hb
  clear hb hp hn hL hD hg hg2 hFp hfr hlim hlim2
  clear ep ef en el
  have HE := Hidden.mk (And.intro eg eh)
  clear eg eh
  go_enter Try.func82, Try.ntmps82
  go_wp2_with fail
  refine hpk.mono ?_; clear hpk; rintro e w1 ⟨rfl, hm1⟩
  have hB1 := HB.out.mod hm1 (by simp)
  have hX1 := Blk.new w1 121 #[.int .u64 k, .int .i64 ((p0 : Int)), .int .i64 (-1)]
  have hM1 := hm1.alloc (.cells #[.int .u64 k, .int .i64 ((p0 : Int)), .int .i64 (-1)] 121)
  have hch1 := chain_change_dn cb pb mb w1.heap.size Fp s ((p0 : Int)) (-1) _ (HP.out.mod hM1 (by simp)) ((hB1.alloc _).cell 1) (hX1.cell 2)
  have hw1l := hB1.lt
  have H1 := Hidden.mk (And.intro hX1 (And.intro hB1 (And.intro hM1 (show w.heap.size ≤ w1.heap.size from hm1.size))))
  clear hX1 hB1 hM1 hm1
  go_wp2_with fail
  refine hch1.mono ?_; clear hch1; rintro e w3 ⟨rfl, p3, m3⟩
  have hxF : w1.heap.size ∉ Fp := fun hk => by have h1 := HD.out.2.2.2.1 _ hk; have h2 := H1.out.2.2.2; omega
  have hX3 := H1.out.1.mod m3 hxF
  have hB3 := (H1.out.2.1.alloc _).mod m3 HD.out.2.2.2.2
  have x30 : w3.cell? ⟨w1.heap.size, 0, none⟩ = some (.int .u64 k) := hX3.cell 0
  have x3f0 := hX3.frozen 0
  have x31 : w3.cell? ⟨w1.heap.size, 1, none⟩ = some (.int .i64 ((p0 : Int))) := hX3.cell 1
  have x3f1 := hX3.frozen 1
  have x32 : w3.cell? ⟨w1.heap.size, 2, none⟩ = some (.int .i64 (-1)) := hX3.cell 2
  have x3f2 := hX3.frozen 2
  have x3l := hX3.lt
  have c30 : w3.cell? ⟨cb, 0, none⟩ = some (.pointer (some ⟨mb, 0, none⟩)) := hB3.cell 0
  have c3f0 := hB3.frozen 0
  have c31 : w3.cell? ⟨cb, 1, none⟩ = some (.pointer (some ⟨pb, 0, none⟩)) := hB3.cell 1
  have c3f1 := hB3.frozen 1
  have c32 : w3.cell? ⟨cb, 2, none⟩ = some (.int .i64 ((f0 : Int))) := hB3.cell 2
  have c3f2 := hB3.frozen 2
  have c33 : w3.cell? ⟨cb, 3, none⟩ = some (.int .i64 ((a : Int))) := hB3.cell 3
  have c3f3 := hB3.frozen 3
  have c3l := hB3.lt
  have hch2 := chain_change_dp cb pb mb w1.heap.size Fp _ (-1) ((p0 : Int)) w3 p3 (hB3.cell 1) (hX3.cell 1)
  have H3 := Hidden.mk (And.intro hX3 (And.intro hB3 m3))
  have HX := Hidden.mk hxF
  clear hX3 hB3 m3 p3 hxF
  go_wp2_with fail
  refine hch2.mono ?_; clear hch2; rintro e w4 ⟨rfl, p4, m4⟩
  have hX4 := H3.out.1.mod m4 HX.out
  have hB4 := H3.out.2.1.mod m4 HD.out.2.2.2.2
  have x40 : w4.cell? ⟨w1.heap.size, 0, none⟩ = some (.int .u64 k) := hX4.cell 0
  have x4f0 := hX4.frozen 0
  have x41 : w4.cell? ⟨w1.heap.size, 1, none⟩ = some (.int .i64 ((p0 : Int))) := hX4.cell 1
  have x4f1 := hX4.frozen 1
  have x42 : w4.cell? ⟨w1.heap.size, 2, none⟩ = some (.int .i64 (-1)) := hX4.cell 2
  have x4f2 := hX4.frozen 2
  have x4l := hX4.lt
  have c40 : w4.cell? ⟨cb, 0, none⟩ = some (.pointer (some ⟨mb, 0, none⟩)) := hB4.cell 0
  have c4f0 := hB4.frozen 0
  have c41 : w4.cell? ⟨cb, 1, none⟩ = some (.pointer (some ⟨pb, 0, none⟩)) := hB4.cell 1
  have c4f1 := hB4.frozen 1
  have c42 : w4.cell? ⟨cb, 2, none⟩ = some (.int .i64 ((f0 : Int))) := hB4.cell 2
  have c4f2 := hB4.frozen 2
  have c43 : w4.cell? ⟨cb, 3, none⟩ = some (.int .i64 ((a : Int))) := hB4.cell 3
  have c4f3 := hB4.frozen 3
  have c4l := hB4.lt
  have hcF : ∀ k ∈ [cb], k ∉ Fp := by simpa using HD.out.2.2.2.2
  have hfree := pL_free a (p4.mod (S := [cb]) (w' := (w4.setCell ⟨cb, 3, none⟩ (.int .i64 ((p0 : Int))))) (by exact ((Mod.refl [cb] w4).set (.inl (by simp)) _)) hcF) HD.out.2.1
  have H4 := Hidden.mk (And.intro hB4 m4)
  clear hX4 hB4 m4 p4 hcF
  go_wp2_with fail
  refine hfree.mono ?_; clear hfree; rintro e w5 ⟨rfl, Fq, k1, k2, k3⟩
  have HK := Hidden.mk (And.intro k1 (And.intro k2 k3))
  clear k1 k2 k3
  go_wp2_with fail
  go_ret
  have hM4 : Mod (cb :: Fp) w w4 := ((H1.out.2.2.1.mono (by simp)).trans H3.out.2.2 (fun x hx => .inl (by simp [hx]))).trans H4.out.2 (fun x hx => .inl (by simp [hx]))
  have hM5 : Mod (cb :: Fp) w (w4.setCell ⟨cb, 3, none⟩ (.int .i64 ((p0 : Int)))) := by exact (hM4.set (.inl (by simp)) _)
  have hcbw4 := H4.out.1.lt
  have hfr := HK.out.2.2.weak hM5.size
  refine ⟨rfl, cb :: Fq, ⟨pb, Fq, _, rfl, ?_, HK.out.1, hfr.not_mem hcb HD.out.2.2.2.2, HD.out.1, HD.out.2.2.1, by simp⟩, hM5.trans HK.out.2.1 (fun x hx => .inl (by simp [hx])), ?_⟩
  · show Blk w5 cb _ #[_, _, .int .i64 (hdC (A ++ ([] : CL)) (-1)), .int .i64 (lsC (A ++ ([] : CL)) (-1))]
    rw [HE.out.1, HE.out.2]
    exact Blk.mod (w := (w4.setCell ⟨cb, 3, none⟩ (.int .i64 ((p0 : Int))))) (by exact (H4.out.1.set 3 _)) HK.out.2.1 HD.out.2.2.2.2
  · intro x hx
    rcases List.mem_cons.1 hx with rfl | hx
    · exact .inl (by simp)
    · exact (hfr x hx).imp (fun h => by simp [h]) id

set_option maxRecDepth 100000 in
set_option maxHeartbeats 2000000 in
theorem chain_drop_11 {w : World} {cb mb limit : Nat} {F : List Nat} {fr : Bool} {A B : CL} {k : Int} {a : Nat} (h : ChainAt w cb mb F limit fr (A ++ (a, k) :: B)) (hA : A ≠ []) (hB : B ≠ []) :
    Calls Try.prog 82 #[.pointer (some ⟨cb, 0, none⟩), .int .i64 a] w fun e w' => e = .returned (.bool true) ∧ ∃ F', ChainAt w' cb mb F' limit false (A ++ B) ∧ Mod F w w' ∧ Fresh w F F' := by
  obtain ⟨p0, ep⟩ : ∃ p0 : Nat, lsC A (-1) = p0 := by obtain ⟨e, _, he⟩ := lsC_mem hA (-1); exact ⟨e.1, he⟩
  obtain ⟨f0, ef0⟩ := hdC_nat hA (-1)
  have ef : hdC (A ++ (a, k) :: B) (-1) = (f0 : Int) := by rw [hdC_app, ← ef0]; exact hdC_ne hA _ _
  have eg : hdC (A ++ B) (-1) = (f0 : Int) := by rw [hdC_app, ← ef0]; exact hdC_ne hA _ _
  have hne1 : ((f0 : Int) == (a : Int)) = false := by
    obtain ⟨e, he, hh⟩ := hdC_mem hA (-1)
    have : e.1 ≠ a := by have := h.nodup; rw [List.map_append, List.map_cons, List.nodup_append] at this; exact this.2.2 e.1 (List.mem_map.2 ⟨e, he, rfl⟩) a (by simp)
    simp; omega
  obtain ⟨n0, en⟩ := hdC_nat hB (-1)
  obtain ⟨l0, el0⟩ : ∃ l0 : Nat, lsC B (-1) = l0 := by obtain ⟨e, _, he⟩ := lsC_mem hB (-1); exact ⟨e.1, he⟩
  have el : lsC (A ++ (a, k) :: B) (-1) = (l0 : Int) := by rw [lsC_app, ← el0]; show lsC B _ = _; exact lsC_ne hB _ _
  have eh : lsC (A ++ B) (-1) = (l0 : Int) := by rw [lsC_app, ← el0]; exact lsC_ne hB _ _
  have hne2 : ((l0 : Int) == (a : Int)) = false := by
    obtain ⟨e, he, hh⟩ := lsC_mem hB (-1)
    have : e.1 ≠ a := by have := h.nodup; rw [List.map_append, List.map_cons, List.nodup_append, List.nodup_cons] at this; intro hq; exact this.2.1.1 (List.mem_map.2 ⟨e, he, hq⟩)
    simp; omega
  obtain ⟨pb, Fp, s, rfl, hb, hp, hn, hL, hlim, hfr⟩ := h
  obtain ⟨hD, hg, hg2⟩ := hL.drop
  have hcb := hb.lt
  have hFp := hp.lt
  have hpk := pL_peek_yes (a : Int) hp hg
  have hlim2 : ((chg (chg s (lsC A (-1)) (setNext (hdC B (-1)))) (hdC B (-1)) (setPrev (lsC A (-1)))).drop a).limit = limit := by show (chg _ _ _).limit = _; rw [chg_limit, chg_limit, hlim]
  rw [ep, en] at hD hg2 hpk hlim2
  rw [ef, el] at hb
  simp only at hpk
  have HD := Hidden.mk (And.intro hD (And.intro hg2 (And.intro hlim2 (And.intro hFp hn))))
  have HP := Hidden.mk hp
  have c00 : w.cell? ⟨cb, 0, none⟩ = some (.pointer (some ⟨mb, 0, none⟩)) := hb.cell 0
  have c0f0 := hb.frozen 0
  have c01 : w.cell? ⟨cb, 1, none⟩ = some (.pointer (some ⟨pb, 0, none⟩)) := hb.cell 1
  have c0f1 := hb.frozen 1
  have c02 : w.cell? ⟨cb, 2, none⟩ = some (.int .i64 ((f0 : Int))) := hb.cell 2
  have c0f2 := hb.frozen 2
  have c03 : w.cell? ⟨cb, 3, none⟩ = some (.int .i64 ((l0 : Int))) := hb.cell 3
  have c0f3 := hb.frozen 3
  have c0l := hb.lt
  have HB := Hidden.mk hb
  clear hb hp hn hL hD hg hg2 hFp hfr hlim hlim2
  clear ep ef en el
  have HE := Hidden.mk (And.intro eg eh)
  clear eg eh
  go_enter Try.func82, Try.ntmps82
  go_wp2_with fail
  refine hpk.mono ?_; clear hpk; rintro e w1 ⟨rfl, hm1⟩
  have hB1 := HB.out.mod hm1 (by simp)
  have hX1 := Blk.new w1 121 #[.int .u64 k, .int .i64 ((p0 : Int)), .int .i64 ((n0 : Int))]
  have hM1 := hm1.alloc (.cells #[.int .u64 k, .int .i64 ((p0 : Int)), .int .i64 ((n0 : Int))] 121)
  have hch1 := chain_change_dn cb pb mb w1.heap.size Fp s ((p0 : Int)) ((n0 : Int)) _ (HP.out.mod hM1 (by simp)) ((hB1.alloc _).cell 1) (hX1.cell 2)
  have hw1l := hB1.lt
  have H1 := Hidden.mk (And.intro hX1 (And.intro hB1 (And.intro hM1 (show w.heap.size ≤ w1.heap.size from hm1.size))))
  clear hX1 hB1 hM1 hm1
  go_wp2_with fail
  refine hch1.mono ?_; clear hch1; rintro e w3 ⟨rfl, p3, m3⟩
  have hxF : w1.heap.size ∉ Fp := fun hk => by have h1 := HD.out.2.2.2.1 _ hk; have h2 := H1.out.2.2.2; omega
  have hX3 := H1.out.1.mod m3 hxF
  have hB3 := (H1.out.2.1.alloc _).mod m3 HD.out.2.2.2.2
  have x30 : w3.cell? ⟨w1.heap.size, 0, none⟩ = some (.int .u64 k) := hX3.cell 0
  have x3f0 := hX3.frozen 0
  have x31 : w3.cell? ⟨w1.heap.size, 1, none⟩ = some (.int .i64 ((p0 : Int))) := hX3.cell 1
  have x3f1 := hX3.frozen 1
  have x32 : w3.cell? ⟨w1.heap.size, 2, none⟩ = some (.int .i64 ((n0 : Int))) := hX3.cell 2
  have x3f2 := hX3.frozen 2
  have x3l := hX3.lt
  have c30 : w3.cell? ⟨cb, 0, none⟩ = some (.pointer (some ⟨mb, 0, none⟩)) := hB3.cell 0
  have c3f0 := hB3.frozen 0
  have c31 : w3.cell? ⟨cb, 1, none⟩ = some (.pointer (some ⟨pb, 0, none⟩)) := hB3.cell 1
  have c3f1 := hB3.frozen 1
  have c32 : w3.cell? ⟨cb, 2, none⟩ = some (.int .i64 ((f0 : Int))) := hB3.cell 2
  have c3f2 := hB3.frozen 2
  have c33 : w3.cell? ⟨cb, 3, none⟩ = some (.int .i64 ((l0 : Int))) := hB3.cell 3
  have c3f3 := hB3.frozen 3
  have c3l := hB3.lt
  have hch2 := chain_change_dp cb pb mb w1.heap.size Fp _ ((n0 : Int)) ((p0 : Int)) w3 p3 (hB3.cell 1) (hX3.cell 1)
  have H3 := Hidden.mk (And.intro hX3 (And.intro hB3 m3))
  have HX := Hidden.mk hxF
  clear hX3 hB3 m3 p3 hxF
  go_wp2_with fail
  refine hch2.mono ?_; clear hch2; rintro e w4 ⟨rfl, p4, m4⟩
  have hX4 := H3.out.1.mod m4 HX.out
  have hB4 := H3.out.2.1.mod m4 HD.out.2.2.2.2
  have x40 : w4.cell? ⟨w1.heap.size, 0, none⟩ = some (.int .u64 k) := hX4.cell 0
  have x4f0 := hX4.frozen 0
  have x41 : w4.cell? ⟨w1.heap.size, 1, none⟩ = some (.int .i64 ((p0 : Int))) := hX4.cell 1
  have x4f1 := hX4.frozen 1
  have x42 : w4.cell? ⟨w1.heap.size, 2, none⟩ = some (.int .i64 ((n0 : Int))) := hX4.cell 2
  have x4f2 := hX4.frozen 2
  have x4l := hX4.lt
  have c40 : w4.cell? ⟨cb, 0, none⟩ = some (.pointer (some ⟨mb, 0, none⟩)) := hB4.cell 0
  have c4f0 := hB4.frozen 0
  have c41 : w4.cell? ⟨cb, 1, none⟩ = some (.pointer (some ⟨pb, 0, none⟩)) := hB4.cell 1
  have c4f1 := hB4.frozen 1
  have c42 : w4.cell? ⟨cb, 2, none⟩ = some (.int .i64 ((f0 : Int))) := hB4.cell 2
  have c4f2 := hB4.frozen 2
  have c43 : w4.cell? ⟨cb, 3, none⟩ = some (.int .i64 ((l0 : Int))) := hB4.cell 3
  have c4f3 := hB4.frozen 3
  have c4l := hB4.lt
  have hcF : ∀ k ∈ [cb], k ∉ Fp := by simpa using HD.out.2.2.2.2
  have hfree := pL_free a (p4.mod (S := [cb]) (w' := w4) (by exact (Mod.refl [cb] w4)) hcF) HD.out.2.1
  have H4 := Hidden.mk (And.intro hB4 m4)
  clear hX4 hB4 m4 p4 hcF
  go_wp2_with fail
  refine hfree.mono ?_; clear hfree; rintro e w5 ⟨rfl, Fq, k1, k2, k3⟩
  have HK := Hidden.mk (And.intro k1 (And.intro k2 k3))
  clear k1 k2 k3
  go_wp2_with fail
  go_ret
  have hM4 : Mod (cb :: Fp) w w4 := ((H1.out.2.2.1.mono (by simp)).trans H3.out.2.2 (fun x hx => .inl (by simp [hx]))).trans H4.out.2 (fun x hx => .inl (by simp [hx]))
  have hM5 : Mod (cb :: Fp) w w4 := by exact hM4
  have hcbw4 := H4.out.1.lt
  have hfr := HK.out.2.2.weak hM5.size
  refine ⟨rfl, cb :: Fq, ⟨pb, Fq, _, rfl, ?_, HK.out.1, hfr.not_mem hcb HD.out.2.2.2.2, HD.out.1, HD.out.2.2.1, by simp⟩, hM5.trans HK.out.2.1 (fun x hx => .inl (by simp [hx])), ?_⟩
  · show Blk w5 cb _ #[_, _, .int .i64 (hdC (A ++ B) (-1)), .int .i64 (lsC (A ++ B) (-1))]
    rw [HE.out.1, HE.out.2]
    exact Blk.mod (w := w4) (by exact H4.out.1) HK.out.2.1 HD.out.2.2.2.2
  · intro x hx
    rcases List.mem_cons.1 hx with rfl | hx
    · exact .inl (by simp)
    · exact (hfr x hx).imp (fun h => by simp [h]) id

set_option maxRecDepth 100000 in
set_option maxHeartbeats 1000000 in
theorem chain_read_yes {w : World} {cb mb limit : Nat} {F : List Nat} {fr : Bool} {A B : CL} {k : Int} {a : Nat} {m : Mt} (h : ChainAt w cb mb F limit fr (A ++ (a, k) :: B)) (hm : MeterAt w mb m) (hmF : mb ∉ F) :
    Calls Try.prog 99 #[.pointer (some ⟨cb, 0, none⟩), .int .i64 a] w fun e w' => e = .returned (.tuple #[.agg #[.int .u64 k, .int .i64 (lsC A (-1)), .int .i64 (hdC B (-1))], .bool true]) ∧ MeterAt w' mb m.read ∧ Mod [mb] w w' := by
  obtain ⟨pb, Fp, s, rfl, hb, hp, hn, hL, hlim, hfr⟩ := h
  obtain ⟨_, hg, _⟩ := hL.drop
  have hmp : mb ∉ Fp := fun hk => hmF (by simp [hk])
  have hat := fun W (hW : Mod [] w W) => pL_at_yes (a : Int) (hp.mod hW (by simp)) (hm.mod hW (by simp)) hmp hg
  simp only at hat
  have c1 : w.cell? ⟨cb, 1, none⟩ = some (.pointer (some ⟨pb, 0, none⟩)) := hb.cell 1
  have hcb := hb.lt
  have hmb := hm.lt
  generalize lsC A (-1) = p at *
  generalize hdC B (-1) = n at *
  clear hb hp hn hL hfr hm hmF hg hmp hlim
  go_enter Try.func99, Try.ntmps99
  go_wp2_with fail
  refine (hat _ ((Mod.refl _ w).alloc _)).mono ?_; clear hat; rintro e w2 ⟨rfl, _, k2, k3⟩
  have hR := (Blk.new w 121 #[.int .u64 0, .int .i64 0, .int .i64 0]).mod k3 (by simp; omega)
  have r0 : w2.cell? ⟨w.heap.size, 0, none⟩ = some (.int .u64 0) := hR.cell 0
  have rf0 := hR.frozen 0
  have r1 : w2.cell? ⟨w.heap.size, 1, none⟩ = some (.int .i64 0) := hR.cell 1
  have rf1 := hR.frozen 1
  have r2 : w2.cell? ⟨w.heap.size, 2, none⟩ = some (.int .i64 0) := hR.cell 2
  have rf2 := hR.frozen 2
  have rl := hR.lt
  have HK := Hidden.mk (And.intro k2 k3)
  clear hR k2 k3
  go_wp2_with fail
  refine bodyPost_ret (v := .tuple #[.agg #[.int .u64 k, .int .i64 p, .int .i64 n], .bool true]) (by simp [results, Try.results99, go_sem, r0, r1, r2]) rfl ⟨rfl, ?_, ?_⟩
  · refine HK.out.1.mod (S := [w.heap.size]) ?_ (by simp; omega)
    exact (((Mod.refl _ _).set (.inl (by simp)) _).set (.inl (by simp)) _).set (.inl (by simp)) _
  · exact (((((((Mod.refl [] w).alloc _).mono (by simp)).trans HK.out.2 (by simp)).set (.inr (by simp)) _).set (.inr (by simp)) _).set (.inr (by simp)) _)
set_option maxRecDepth 100000 in
set_option maxHeartbeats 1000000 in
theorem chain_read_no {w : World} {cb mb limit : Nat} {F : List Nat} {fr : Bool} {L : CL} (h : ChainAt w cb mb F limit fr L) :
    Calls Try.prog 99 #[.pointer (some ⟨cb, 0, none⟩), .int .i64 (-1)] w fun e w' => e = .returned (.tuple #[.agg #[.int .u64 0, .int .i64 0, .int .i64 0], .bool false]) ∧ Mod [] w w' := by
  obtain ⟨pb, Fp, s, rfl, hb, hp, hn, hL, hlim, hfr⟩ := h
  have hat := fun W (hW : Mod [] w W) => pL_at_no (-1) (hp.mod hW (by simp)) (PS.get_neg s (by omega))
  have c1 : w.cell? ⟨cb, 1, none⟩ = some (.pointer (some ⟨pb, 0, none⟩)) := hb.cell 1
  have hcb := hb.lt
  clear hb hp hn hL hfr hlim
  go_enter Try.func99, Try.ntmps99
  go_wp2_with fail
  refine (hat _ ((Mod.refl _ w).alloc _)).mono ?_; clear hat; rintro e w2 ⟨rfl, k3⟩
  have hR := (Blk.new w 121 #[.int .u64 0, .int .i64 0, .int .i64 0]).mod k3 (by simp)
  have r0 : w2.cell? ⟨w.heap.size, 0, none⟩ = some (.int .u64 0) := hR.cell 0
  have rf0 := hR.frozen 0
  have r1 : w2.cell? ⟨w.heap.size, 1, none⟩ = some (.int .i64 0) := hR.cell 1
  have rf1 := hR.frozen 1
  have r2 : w2.cell? ⟨w.heap.size, 2, none⟩ = some (.int .i64 0) := hR.cell 2
  have rf2 := hR.frozen 2
  have rl := hR.lt
  have HK := Hidden.mk k3
  clear hR k3
  go_wp2_with fail
  refine bodyPost_ret (v := .tuple #[.agg #[.int .u64 0, .int .i64 0, .int .i64 0], .bool false]) (by simp [results, Try.results99, go_sem, r0, r1, r2]) rfl ⟨rfl, ?_⟩
  exact ((((((Mod.refl [] w).alloc _)).trans HK.out (by simp)).set (.inr (by simp)) _).set (.inr (by simp)) _).set (.inr (by simp)) _
set_option maxHeartbeats 400000 in
theorem chain_read_nil (i : Int) (w : World) :
    Calls Try.prog 99 #[.pointer none, .int .i64 i] w fun e w' => e = .returned (.tuple #[.agg #[.int .u64 0, .int .i64 0, .int .i64 0], .bool false]) ∧ Mod [] w w' := by
  go_enter Try.func99, Try.ntmps99
  go_wp2_with fail
  refine bodyPost_ret (v := .tuple #[.agg #[.int .u64 0, .int .i64 0, .int .i64 0], .bool false]) (by simp [results, Try.results99, go_sem]) rfl ⟨rfl, ?_⟩
  exact (Mod.refl _ w).alloc _

set_option maxHeartbeats 400000 in
theorem chain_key_yes {w : World} {cb mb limit : Nat} {F : List Nat} {fr : Bool} {A B : CL} {k : Int} {a : Nat} {m : Mt} (h : ChainAt w cb mb F limit fr (A ++ (a, k) :: B)) (hm : MeterAt w mb m) (hmF : mb ∉ F) :
    Calls Try.prog 98 #[.pointer (some ⟨cb, 0, none⟩), .int .i64 a] w fun e w' => e = .returned (.tuple #[.int .u64 k, .bool true]) ∧ MeterAt w' mb m.read ∧ Mod [mb] w w' := by
  have hr := chain_read_yes h hm hmF
  clear h hm hmF
  generalize lsC A (-1) = p at *
  generalize hdC B (-1) = n at *
  go_enter Try.func98, Try.ntmps98
  go_wp2_with fail
  refine hr.mono ?_; clear hr; rintro e w1 ⟨rfl, k1, k2⟩
  have HK := Hidden.mk (And.intro k1 k2)
  clear k1 k2
  go_wp2_with fail
  go_ret2
  exact ⟨rfl, HK.out.1.mod ((Mod.refl [] w1).alloc _) (by simp), HK.out.2.alloc _⟩
set_option maxHeartbeats 400000 in
theorem chain_key_no {w : World} {cb mb limit : Nat} {F : List Nat} {fr : Bool} {L : CL} (h : ChainAt w cb mb F limit fr L) :
    Calls Try.prog 98 #[.pointer (some ⟨cb, 0, none⟩), .int .i64 (-1)] w fun e w' => e = .returned (.tuple #[.int .u64 0, .bool false]) ∧ Mod [] w w' := by
  have hr := chain_read_no h
  clear h
  go_enter Try.func98, Try.ntmps98
  go_wp2_with fail
  refine hr.mono ?_; clear hr; rintro e w1 ⟨rfl, k2⟩
  have HK := Hidden.mk k2
  clear k2
  go_wp2_with fail
  go_ret2
  exact ⟨rfl, HK.out.alloc _⟩
set_option maxHeartbeats 400000 in
theorem chain_key_nil (i : Int) (w : World) :
    Calls Try.prog 98 #[.pointer none, .int .i64 i] w fun e w' => e = .returned (.tuple #[.int .u64 0, .bool false]) ∧ Mod [] w w' := by
  have hr := chain_read_nil i w
  go_enter Try.func98, Try.ntmps98
  go_wp2_with fail
  refine hr.mono ?_; clear hr; rintro e w1 ⟨rfl, k2⟩
  have HK := Hidden.mk k2
  clear k2
  go_wp2_with fail
  go_ret2
  exact ⟨rfl, HK.out.alloc _⟩
set_option maxHeartbeats 400000 in
theorem chain_next_yes {w : World} {cb mb limit : Nat} {F : List Nat} {fr : Bool} {A B : CL} {k : Int} {a : Nat} {m : Mt} (h : ChainAt w cb mb F limit fr (A ++ (a, k) :: B)) (hm : MeterAt w mb m) (hmF : mb ∉ F) :
    Calls Try.prog 61 #[.pointer (some ⟨cb, 0, none⟩), .int .i64 a] w fun e w' => e = .returned (.int .i64 (hdC B (-1))) ∧ MeterAt w' mb m.read ∧ Mod [mb] w w' := by
  have hr := chain_read_yes h hm hmF
  clear h hm hmF
  generalize lsC A (-1) = p at *
  generalize hdC B (-1) = n at *
  go_enter Try.func61, Try.ntmps61
  go_wp2_with fail
  refine hr.mono ?_; clear hr; rintro e w1 ⟨rfl, k1, k2⟩
  have HK := Hidden.mk (And.intro k1 k2)
  clear k1 k2
  go_wp2_with fail
  go_ret
  exact ⟨rfl, HK.out.1.mod ((Mod.refl [] w1).alloc _) (by simp), HK.out.2.alloc _⟩
set_option maxHeartbeats 400000 in
theorem chain_next_no {w : World} {cb mb limit : Nat} {F : List Nat} {fr : Bool} {L : CL} (h : ChainAt w cb mb F limit fr L) :
    Calls Try.prog 61 #[.pointer (some ⟨cb, 0, none⟩), .int .i64 (-1)] w fun e w' => e = .returned (.int .i64 (-1)) ∧ Mod [] w w' := by
  have hr := chain_read_no h
  clear h
  go_enter Try.func61, Try.ntmps61
  go_wp2_with fail
  refine hr.mono ?_; clear hr; rintro e w1 ⟨rfl, k2⟩
  have HK := Hidden.mk k2
  clear k2
  go_wp2_with fail
  go_ret
  exact ⟨rfl, HK.out.alloc _⟩
set_option maxHeartbeats 400000 in
theorem chain_next_nil (i : Int) (w : World) :
    Calls Try.prog 61 #[.pointer none, .int .i64 i] w fun e w' => e = .returned (.int .i64 (-1)) ∧ Mod [] w w' := by
  have hr := chain_read_nil i w
  go_enter Try.func61, Try.ntmps61
  go_wp2_with fail
  refine hr.mono ?_; clear hr; rintro e w1 ⟨rfl, k2⟩
  have HK := Hidden.mk k2
  clear k2
  go_wp2_with fail
  go_ret
  exact ⟨rfl, HK.out.alloc _⟩
set_option maxHeartbeats 400000 in
theorem chain_prev_yes {w : World} {cb mb limit : Nat} {F : List Nat} {fr : Bool} {A B : CL} {k : Int} {a : Nat} {m : Mt} (h : ChainAt w cb mb F limit fr (A ++ (a, k) :: B)) (hm : MeterAt w mb m) (hmF : mb ∉ F) :
    Calls Try.prog 60 #[.pointer (some ⟨cb, 0, none⟩), .int .i64 a] w fun e w' => e = .returned (.int .i64 (lsC A (-1))) ∧ MeterAt w' mb m.read ∧ Mod [mb] w w' := by
  have hr := chain_read_yes h hm hmF
  clear h hm hmF
  generalize lsC A (-1) = p at *
  generalize hdC B (-1) = n at *
  go_enter Try.func60, Try.ntmps60
  go_wp2_with fail
  refine hr.mono ?_; clear hr; rintro e w1 ⟨rfl, k1, k2⟩
  have HK := Hidden.mk (And.intro k1 k2)
  clear k1 k2
  go_wp2_with fail
  go_ret
  exact ⟨rfl, HK.out.1.mod ((Mod.refl [] w1).alloc _) (by simp), HK.out.2.alloc _⟩
set_option maxHeartbeats 400000 in
theorem chain_prev_no {w : World} {cb mb limit : Nat} {F : List Nat} {fr : Bool} {L : CL} (h : ChainAt w cb mb F limit fr L) :
    Calls Try.prog 60 #[.pointer (some ⟨cb, 0, none⟩), .int .i64 (-1)] w fun e w' => e = .returned (.int .i64 (-1)) ∧ Mod [] w w' := by
  have hr := chain_read_no h
  clear h
  go_enter Try.func60, Try.ntmps60
  go_wp2_with fail
  refine hr.mono ?_; clear hr; rintro e w1 ⟨rfl, k2⟩
  have HK := Hidden.mk k2
  clear k2
  go_wp2_with fail
  go_ret
  exact ⟨rfl, HK.out.alloc _⟩
set_option maxHeartbeats 400000 in
theorem chain_prev_nil (i : Int) (w : World) :
    Calls Try.prog 60 #[.pointer none, .int .i64 i] w fun e w' => e = .returned (.int .i64 (-1)) ∧ Mod [] w w' := by
  have hr := chain_read_nil i w
  go_enter Try.func60, Try.ntmps60
  go_wp2_with fail
  refine hr.mono ?_; clear hr; rintro e w1 ⟨rfl, k2⟩
  have HK := Hidden.mk k2
  clear k2
  go_wp2_with fail
  go_ret
  exact ⟨rfl, HK.out.alloc _⟩

set_option maxHeartbeats 400000 in
theorem chain_first {w : World} {cb mb limit : Nat} {F : List Nat} {fr : Bool} {L : CL} (h : ChainAt w cb mb F limit fr L) : Calls Try.prog 83 #[.pointer (some ⟨cb, 0, none⟩)] w fun e w' => e = .returned (.int .i64 (hdC L (-1))) ∧ w = w' := by
  obtain ⟨pb, Fp, s, rfl, hb, hp, hn, hL, hlim, hfr⟩ := h
  have c1 : w.cell? ⟨cb, 2, none⟩ = some (.int .i64 (hdC L (-1))) := hb.cell 2
  clear hb hp hn hL hlim hfr
  go_enter Try.func83, Try.ntmps83
  go_wp2
  go_ret
  exact ⟨rfl, rfl⟩
set_option maxHeartbeats 400000 in
theorem chain_first_nil (w : World) : Calls Try.prog 83 #[.pointer none] w fun e w' => e = .returned (.int .i64 (-1)) ∧ w = w' := by
  go_enter Try.func83, Try.ntmps83
  go_wp2
  go_ret
  exact ⟨rfl, rfl⟩

set_option maxHeartbeats 400000 in
theorem chain_last {w : World} {cb mb limit : Nat} {F : List Nat} {fr : Bool} {L : CL} (h : ChainAt w cb mb F limit fr L) : Calls Try.prog 84 #[.pointer (some ⟨cb, 0, none⟩)] w fun e w' => e = .returned (.int .i64 (lsC L (-1))) ∧ w = w' := by
  obtain ⟨pb, Fp, s, rfl, hb, hp, hn, hL, hlim, hfr⟩ := h
  have c1 : w.cell? ⟨cb, 3, none⟩ = some (.int .i64 (lsC L (-1))) := hb.cell 3
  clear hb hp hn hL hlim hfr
  go_enter Try.func84, Try.ntmps84
  go_wp2
  go_ret
  exact ⟨rfl, rfl⟩
set_option maxHeartbeats 400000 in
theorem chain_last_nil (w : World) : Calls Try.prog 84 #[.pointer none] w fun e w' => e = .returned (.int .i64 (-1)) ∧ w = w' := by
  go_enter Try.func84, Try.ntmps84
  go_wp2
  go_ret
  exact ⟨rfl, rfl⟩

set_option maxHeartbeats 400000 in
theorem chain_len {w : World} {cb mb limit : Nat} {F : List Nat} {fr : Bool} {L : CL} (h : ChainAt w cb mb F limit fr L) : Calls Try.prog 86 #[.pointer (some ⟨cb, 0, none⟩)] w fun e w' => e = .returned (.int .i64 L.length) ∧ w = w' := by
  obtain ⟨pb, Fp, s, rfl, hb, hp, hn, hL, hlim, hfr⟩ := h
  have c1 : w.cell? ⟨cb, 1, none⟩ = some (.pointer (some ⟨pb, 0, none⟩)) := hb.cell 1
  have hl := pL_len hp
  rw [hL.live] at hl
  clear hb hp hn hL hlim hfr
  go_enter Try.func86, Try.ntmps86
  go_wp2_with fail
  refine hl.mono ?_; clear hl; rintro e w1 ⟨rfl, rfl⟩
  go_wp2_with fail
  go_ret
  exact ⟨rfl, rfl⟩
set_option maxHeartbeats 400000 in
theorem chain_len_nil (w : World) : Calls Try.prog 86 #[.pointer none] w fun e w' => e = .returned (.int .i64 0) ∧ w = w' := by
  go_enter Try.func86, Try.ntmps86
  go_wp2
  go_ret
  exact ⟨rfl, rfl⟩
set_option maxHeartbeats 400000 in
theorem chain_drop_nil (i : Int) (w : World) : Calls Try.prog 82 #[.pointer none, .int .i64 i] w fun e w' => e = .returned (.bool false) ∧ w = w' := by
  go_enter Try.func82, Try.ntmps82
  go_wp2
  go_ret
  exact ⟨rfl, rfl⟩
set_option maxHeartbeats 400000 in
theorem chain_behind_nil (i k : Int) (w : World) : Calls Try.prog 77 #[.pointer none, .int .i64 i, .int .u64 k] w fun e w' => e = .returned (.tuple #[.int .i64 0, .bool false]) ∧ w = w' := by
  go_enter Try.func77, Try.ntmps77
  go_wp2
  go_ret2
  exact ⟨rfl, rfl⟩
set_option maxHeartbeats 400000 in
theorem chain_clear_nil (w : World) : Calls Try.prog 89 #[.pointer none] w fun e w' => e = .returned (.tuple #[]) ∧ w = w' := by
  go_enter Try.func89, Try.ntmps89
  go_wp2
  go_end0
  exact ⟨rfl, rfl⟩
set_option maxHeartbeats 400000 in
theorem chain_clear {w : World} {cb mb limit : Nat} {F : List Nat} {fr : Bool} {L : CL} (h : ChainAt w cb mb F limit fr L) : Calls Try.prog 89 #[.pointer (some ⟨cb, 0, none⟩)] w fun e w' => e = .returned (.tuple #[]) ∧ ∃ F', ChainAt w' cb mb F' limit true [] ∧ Mod F w w' ∧ Fresh w F F' := by
  obtain ⟨pb, Fp, s, rfl, hb, hp, hn, hL, hlim, hfr⟩ := h
  have c1 : w.cell? ⟨cb, 1, none⟩ = some (.pointer (some ⟨pb, 0, none⟩)) := hb.cell 1
  have hc := pL_clear hp
  have H := Hidden.mk (And.intro hb (And.intro hn hlim))
  clear hb hp hn hL hlim hfr
  go_enter Try.func89, Try.ntmps89
  go_wp2_with fail
  refine hc.mono ?_; clear hc; rintro e w1 ⟨rfl, Fq, k1, k2, k3⟩
  have hb1 := H.out.1.mod k2 H.out.2.1
  have d2 := hb1.cell 2
  have d3 := hb1.cell 3
  simp at d2 d3
  have f2 := hb1.frozen 2
  have f3 := hb1.frozen 3
  have hl := hb1.lt
  have HK := Hidden.mk (And.intro k1 (And.intro k2 (And.intro k3 hb1)))
  clear k1 k2 k3 hb1
  go_wp2_with fail
  go_end0
  have hn := HK.out.2.2.1.not_mem H.out.1.lt H.out.2.1
  refine ⟨rfl, cb :: Fq, ⟨pb, Fq, PS.empty limit, rfl, (HK.out.2.2.2.set 2 _).set 3 _, ?_, hn, Linked.empty limit, rfl, fun _ => ⟨rfl, rfl⟩⟩, ((HK.out.2.1.mono (fun x hx => .inl (by simp [hx]))).set (.inl (by simp)) _).set (.inl (by simp)) _, ?_⟩
  · rw [← H.out.2.2]; exact HK.out.1.mod (((Mod.refl [cb] w1).set (.inl (by simp)) _).set (.inl (by simp)) _) (by simpa using hn)
  · intro x hx
    rcases List.mem_cons.1 hx with rfl | hx
    · exact .inl (by simp)
    · exact (HK.out.2.2.1 x hx).imp (fun h => by simp [h]) id
end Go.Proofs.Ytfioekkegihkoaa
