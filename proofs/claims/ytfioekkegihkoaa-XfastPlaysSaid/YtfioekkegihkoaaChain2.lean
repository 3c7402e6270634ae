/- The chain in memory: Behind. -/
import Derived.Test.YtfioekkegihkoaaChain
import Derived.Deep.DeepCutAuto
namespace Go.Proofs.Ytfioekkegihkoaa
open Go.RowKit
set_option linter.unusedVariables false
set_option linter.unusedSimpArgs false
theorem Seg.last {g : Int → Option VL} {A B : CL} {n : Int} (h : Seg g (-1) (A ++ B) n) (hA : A ≠ []) : ∃ (a0 : Nat) (k0 p0 : Int), lsC A (-1) = a0 ∧ g (a0 : Int) = some (k0, p0, hdC B n) := by
  obtain ⟨A', e, rfl⟩ : ∃ A' e, A = A' ++ [e] := ⟨A.dropLast, A.getLast hA, (List.dropLast_concat_getLast hA).symm⟩
  obtain ⟨h1, _⟩ := Seg.app.1 h
  obtain ⟨_, h2, _⟩ := Seg.app.1 h1
  exact ⟨e.1, e.2, _, lsC_snoc _ _ _, h2⟩
theorem hdC_nat {B : CL} (hB : B ≠ []) (n : Int) : ∃ b0 : Nat, hdC B n = b0 := by obtain ⟨e, _, he⟩ := hdC_mem hB n; exact ⟨e.1, he⟩
theorem PS.next_le {s : PS VL} (hwf : s.wf) : s.nextAt ≤ 1048576 := by
  have h2 := hwf.lim; have h3 := hwf.len
  unfold PS.nextAt
  cases hg : s.free.getLast? with
  | none => simp; omega
  | some i =>
    have := (List.getElem?_eq_some_iff.1 ((hwf.mem i).1 (PS.last_mem hg))).1
    simp; omega
/-- What Behind leaves. -/
def BehindPost (w : World) (cb mb : Nat) (F : List Nat) (limit : Nat) (fr : Bool) (A B : CL) (k : Int) (e : Ending) (w' : World) : Prop :=
  ∃ (a : Nat) (F' : List Nat), e = .returned (.tuple #[.int .i64 a, .bool true]) ∧ ChainAt w' cb mb F' limit fr (A ++ (a, k) :: B) ∧ Mod F w w' ∧ Fresh w F F' ∧ (fr = true → a = (A ++ B).length)
theorem ChainAt.put {w w' : World} {cb mb pb limit : Nat} {Fp Fq : List Nat} {fr : Bool} {A B : CL} {k : Int} {s : PS VL} (hL : Linked s (A ++ B)) (hwf : s.wf) (hfr : fr = true → s.free = [] ∧ s.cells.length = (A ++ B).length) (hn : cb ∉ Fp) (hcb : cb < w.heap.size) (hlim : s.limit = limit)
    (hb : Blk w' cb 127 #[.pointer (some ⟨mb, 0, none⟩), .pointer (some ⟨pb, 0, none⟩), .int .i64 (hdC (A ++ (s.nextAt, k) :: B) (-1)), .int .i64 (lsC (A ++ (s.nextAt, k) :: B) (-1))])
    (hp : PoolAt TL w' pb mb Fq (chg (chg (s.take (k, lsC A (-1), hdC B (-1))) (lsC A (-1)) (setNext s.nextAt)) (hdC B (-1)) (setPrev s.nextAt))) (hfq : Fresh w Fp Fq) (hm : Mod (cb :: Fp) w w') :
    BehindPost w cb mb (cb :: Fp) limit fr A B k (.returned (.tuple #[.int .i64 s.nextAt, .bool true])) w' := by
  refine ⟨s.nextAt, cb :: Fq, rfl, ⟨pb, Fq, _, rfl, hb, hp, hfq.not_mem hcb hn, hL.put hwf, ?_, fun hf => ?_⟩, hm, ?_, fun hf => ?_⟩
  · rw [chg_limit, chg_limit, ← hlim]; unfold PS.take; split <;> rfl
  · obtain ⟨e1, e2⟩ := hfr hf
    rw [chg_free, chg_free, chg_len, chg_len]
    have : ∀ x, s.take x = { s with cells := s.cells ++ [some x] } := fun x => by unfold PS.take; rw [e1]; rfl
    rw [this]; exact ⟨e1, by simp at e2 ⊢; omega⟩
  · intro x hx
    rcases List.mem_cons.1 hx with rfl | hx
    · exact .inl (by simp)
    · exact (hfq x hx).imp (fun h => by simp [h]) id
  · obtain ⟨e1, e2⟩ := hfr hf
    unfold PS.nextAt; rw [e1]; simpa using e2
/-- What stands behind the pool's Alloc: the new place's number in a block of its own. -/
structure Beh7 (w wx : World) (cb pb mb : Nat) (Fp Fq : List Nat) (s' : PS VL) (cbc xc : Array Value) (xb qb : Nat) (v : Int) : Prop where
  pool : PoolAt TL wx pb mb Fq s'
  fresh : Fresh w Fp Fq
  mod : Mod Fp w wx
  hb : Blk wx cb 127 cbc
  hx : Blk wx xb 121 xc
  hq : Blk wx qb 3 #[.int .i64 v]
  nq : qb ∉ Fq
  nb : cb ∉ Fq
  nx : xb ∉ Fq
  ge : w.heap.size ≤ qb
theorem Fresh.weak {w W : World} {F F' : List Nat} (h : Fresh W F F') (hs : w.heap.size ≤ W.heap.size) : Fresh w F F' := fun k hk => (h k hk).imp id (fun h => Nat.le_trans hs h)
theorem Beh7.callFirst {w W7 w2 : World} {cb pb mb : Nat} {Fp Fq : List Nat} {s' : PS VL} {cbc xc : Array Value} {xb : Nat} {v : Int} (hM : Mod [] w W7) (hX : Blk W7 xb 121 xc) (hB : Blk W7 cb 127 cbc) (hn : cb ∉ Fp) (hF : ∀ k ∈ Fp, k < w.heap.size) (hx : w.heap.size ≤ xb)
    (k1 : PoolAt TL w2 pb mb Fq s') (k2 : Mod Fp W7.drew w2) (k3 : Fresh W7.drew Fp Fq) : Beh7 w (w2.alloc (.cells #[.int .i64 v] 3)) cb pb mb Fp Fq s' cbc xc xb w2.heap.size v := by
  have hxF : xb ∉ Fp := fun hk => by have := hF _ hk; omega
  have h1 : Mod Fp w w2 := (hM.drew.mono (by simp)).trans k2 (fun x hx => .inl hx)
  exact ⟨k1.mod ((Mod.refl [] w2).alloc _) (by simp), k3.weak hM.size, h1.alloc _, (hB.drew.mod k2 hn).alloc _, (hX.drew.mod k2 hxF).alloc _, Blk.new w2 _ _, fun hk => by have := k1.lt _ hk; omega, k3.not_mem hB.lt hn, k3.not_mem hX.lt hxF, h1.size⟩
theorem Beh7.allocFirst {w W7 w2 : World} {cb pb mb : Nat} {Fp Fq : List Nat} {s' : PS VL} {cbc xc : Array Value} {xb : Nat} {v : Int} (hM : Mod [] w W7) (hX : Blk W7 xb 121 xc) (hB : Blk W7 cb 127 cbc) (hn : cb ∉ Fp) (hF : ∀ k ∈ Fp, k < w.heap.size) (hx : w.heap.size ≤ xb)
    (k1 : PoolAt TL w2 pb mb Fq s') (k2 : Mod Fp (W7.alloc (.cells #[.int .i64 0] 3)).drew w2) (k3 : Fresh (W7.alloc (.cells #[.int .i64 0] 3)).drew Fp Fq) : Beh7 w (w2.setCell ⟨W7.heap.size, 0, none⟩ (.int .i64 v)) cb pb mb Fp Fq s' cbc xc xb W7.heap.size v := by
  have hxF : xb ∉ Fp := fun hk => by have := hF _ hk; omega
  have hqF : W7.heap.size ∉ Fp := fun hk => by have := hF _ hk; have := hM.size; omega
  have h1 : Mod Fp w w2 := ((hM.alloc _).drew.mono (by simp)).trans k2 (fun x hx => .inl hx)
  have hq := ((Blk.new W7 3 #[.int .i64 0]).drew).mod k2 hqF
  have hqq : W7.heap.size ∉ Fq := k3.not_mem (Blk.new W7 3 #[.int .i64 0]).drew.lt hqF
  have hbw := hB.lt
  have hxw := hX.lt
  exact ⟨k1.mod ((Mod.refl [W7.heap.size] w2).set (.inl (by simp)) _) (by simpa using hqq), k3.weak (by have := hM.size; simp; omega), h1.set (.inr hM.size) _, ((hB.alloc _).drew.mod k2 hn).far (by show cb ≠ W7.heap.size; omega) _, ((hX.alloc _).drew.mod k2 hxF).far (by show xb ≠ W7.heap.size; omega) _, by simpa using hq.set 0 (.int .i64 v), hqq, k3.not_mem (hB.alloc _).drew.lt hn, k3.not_mem (hX.alloc _).drew.lt hxF, hM.size⟩

set_option maxRecDepth 100000 in
set_option maxHeartbeats 4000000 in
theorem chain_behind_00 {w : World} {cb mb limit : Nat} {F : List Nat} {fr : Bool} {A B : CL} (k i : Int) (h : ChainAt w cb mb F limit fr (A ++ B)) (hi : i = lsC A (-1)) (hl : (A ++ B).length < limit) (hA : A = []) (hB : B = []) :
    Calls Try.prog 77 #[.pointer (some ⟨cb, 0, none⟩), .int .i64 i, .int .u64 k] w (BehindPost w cb mb F limit fr A B k) := by
  obtain ⟨pb, Fp, s, rfl, hb, hp, hn, hL, hlim, hfr⟩ := h
  have hcb := hb.lt
  have hwf := hp.wf
  have hFp := hp.lt
  have hfin := fun Fq w' hq hb' hp' hm' => ChainAt.put (mb := mb) (pb := pb) (k := k) (w := w) (w' := w') (Fq := Fq) hL hwf hfr hn hcb hlim hb' hp' hq hm'
  have hal := fun W (hW : Mod [] w W) => pL_alloc (k, lsC A (-1), hdC B (-1)) (hp.mod hW (by simp)) (show s.alloc _ = (s.take _, s.nextAt, true) from by unfold PS.alloc; rw [if_pos (by rw [hL.live, hlim]; exact hl)])
  have hnx := PS.next_le hwf
  have e1 : hdC (A ++ (s.nextAt, k) :: B) (-1) = (s.nextAt : Int) := by subst hA; rfl
  have e2 : lsC (A ++ (s.nextAt, k) :: B) (-1) = (s.nextAt : Int) := by subst hB; exact lsC_snoc _ _ _
  simp only [e1, e2] at hfin
  clear e1 e2
  subst hA
  have hi' : i = -1 := hi
  clear hi
  subst hi'
  subst hB
  simp only [List.nil_append, show lsC ([] : CL) (-1) = -1 from rfl, List.append_nil, show hdC ([] : CL) (-1) = -1 from rfl] at hb hfin hal
  have hpk := fun W (hW : Mod [] w W) => pL_peek_no (-1) (hp.mod hW (by simp)) (PS.get_neg s (by omega))
  have HB := Hidden.mk (And.intro hb (And.intro hn hFp))
  have HF := Hidden.mk hfin
  have c00 : w.cell? ⟨cb, 0, none⟩ = some (.pointer (some ⟨mb, 0, none⟩)) := hb.cell 0
  have c0f0 := hb.frozen 0
  have c01 : w.cell? ⟨cb, 1, none⟩ = some (.pointer (some ⟨pb, 0, none⟩)) := hb.cell 1
  have c0f1 := hb.frozen 1
  have c02 : w.cell? ⟨cb, 2, none⟩ = some (.int .i64 (-1)) := hb.cell 2
  have c0f2 := hb.frozen 2
  have c03 : w.cell? ⟨cb, 3, none⟩ = some (.int .i64 (-1)) := hb.cell 3
  have c0f3 := hb.frozen 3
  have c0l := hb.lt
  try simp only at hal
  have hnx : (s.nextAt : Int) ≤ 9223372036854775807 := by omega
  clear hb hp hn hL hfr hfin hwf hFp hl hlim
  generalize hq : s.nextAt = at_ at *
  go_enter Try.func77, Try.ntmps77
  go_wp2_with fail
  refine (hpk _ ((Mod.refl _ w).alloc _)).mono ?_; clear hpk; rintro e w1 ⟨rfl, hm1⟩
  have hM1 : Mod [] w w1 := ((Mod.refl _ w).alloc _).trans hm1 (by simp)
  have hX1 : Blk w1 w.heap.size 121 #[.int .u64 k, .int .i64 (-1), .int .i64 (-1)] := (Blk.new w _ _).mod hm1 (by simp)
  have hB1 := HB.out.1.mod hM1 (by simp)
  have x0 : w1.cell? ⟨w.heap.size, 0, none⟩ = some (.int .u64 k) := hX1.cell 0
  have xf0 := hX1.frozen 0
  have x1 : w1.cell? ⟨w.heap.size, 1, none⟩ = some (.int .i64 (-1)) := hX1.cell 1
  have xf1 := hX1.frozen 1
  have x2 : w1.cell? ⟨w.heap.size, 2, none⟩ = some (.int .i64 (-1)) := hX1.cell 2
  have xf2 := hX1.frozen 2
  have xl := hX1.lt
  have c0 : w1.cell? ⟨cb, 0, none⟩ = some (.pointer (some ⟨mb, 0, none⟩)) := hB1.cell 0
  have cf0 := hB1.frozen 0
  have c1 : w1.cell? ⟨cb, 1, none⟩ = some (.pointer (some ⟨pb, 0, none⟩)) := hB1.cell 1
  have cf1 := hB1.frozen 1
  have c2 : w1.cell? ⟨cb, 2, none⟩ = some (.int .i64 (-1)) := hB1.cell 2
  have cf2 := hB1.frozen 2
  have c3 : w1.cell? ⟨cb, 3, none⟩ = some (.int .i64 (-1)) := hB1.cell 3
  have cf3 := hB1.frozen 3
  have cl := hB1.lt
  go_upto_region 7 with fail
  obtain ⟨W7, hW7⟩ : ∃ W, (w1.alloc (.cells #[.int .u64 0, .int .i64 0, .int .i64 0] 121)) = W := ⟨_, rfl⟩
  have hM7 : Mod [] w W7 := by rw [← hW7]; exact hM1.alloc _
  have hX7 : Blk W7 w.heap.size 121 #[.int .u64 k, .int .i64 (-1), .int .i64 (-1)] := by
    rw [← hW7]; exact hX1.alloc _
  have hB7 := HB.out.1.mod hM7 (by simp)
  have x70 : W7.cell? ⟨w.heap.size, 0, none⟩ = some (.int .u64 k) := hX7.cell 0
  have x7f0 := hX7.frozen 0
  have x71 : W7.cell? ⟨w.heap.size, 1, none⟩ = some (.int .i64 (-1)) := hX7.cell 1
  have x7f1 := hX7.frozen 1
  have x72 : W7.cell? ⟨w.heap.size, 2, none⟩ = some (.int .i64 (-1)) := hX7.cell 2
  have x7f2 := hX7.frozen 2
  have x7l := hX7.lt
  have c70 : W7.cell? ⟨cb, 0, none⟩ = some (.pointer (some ⟨mb, 0, none⟩)) := hB7.cell 0
  have c7f0 := hB7.frozen 0
  have c71 : W7.cell? ⟨cb, 1, none⟩ = some (.pointer (some ⟨pb, 0, none⟩)) := hB7.cell 1
  have c7f1 := hB7.frozen 1
  have c72 : W7.cell? ⟨cb, 2, none⟩ = some (.int .i64 (-1)) := hB7.cell 2
  have c7f2 := hB7.frozen 2
  have c73 : W7.cell? ⟨cb, 3, none⟩ = some (.int .i64 (-1)) := hB7.cell 3
  have c7f3 := hB7.frozen 3
  have c7l := hB7.lt
  have HW7 := Hidden.mk (And.intro hM7 (And.intro hX7 hB7))
  clear hM7 hX7 hB7 hm1 hX1 hB1 hM1
  simp only [hW7]
  clear hW7
  go_cut [11, 12] (fun q ok wx => ok = .bool true ∧ ∃ (qb : Nat) (Fq : List Nat), q = .pointer (some ⟨qb, 0, none⟩) ∧ Beh7 w wx cb pb mb Fp Fq (s.take (k, -1, -1)) #[.pointer (some ⟨mb, 0, none⟩), .pointer (some ⟨pb, 0, none⟩), .int .i64 (-1), .int .i64 (-1)] #[.int .u64 k, .int .i64 (-1), .int .i64 (-1)] w.heap.size qb at_)
  case first =>
    go_region_with (first | (go_at_call 109; refine (hal _ HW7.out.1.drew).mono ?_; rintro e w2 ⟨rfl, Fq, k1, k2, k3⟩; have HK := Hidden.mk (Beh7.callFirst (v := at_) HW7.out.1 HW7.out.2.1 HW7.out.2.2 HB.out.2.1 HB.out.2.2 (Nat.le_refl _) k1 k2 k3); clear k1 k2 k3) | (go_at_call 109; refine (hal _ (HW7.out.1.alloc _).drew).mono ?_; rintro e w2 ⟨rfl, Fq, k1, k2, k3⟩; have HK := Hidden.mk (Beh7.allocFirst (v := at_) HW7.out.1 HW7.out.2.1 HW7.out.2.2 HB.out.2.1 HB.out.2.2 (Nat.le_refl _) k1 k2 k3); have hQ2 := ((Blk.new W7 3 #[.int .i64 0]).drew).mod k2 (fun hk => by have h1 := HB.out.2.2 _ hk; have h2 := HW7.out.1.size; omega); have u0 : w2.cell? ⟨W7.heap.size, 0, none⟩ = some (.int .i64 0) := hQ2.cell 0; have uf0 := hQ2.frozen 0; have ul := hQ2.lt; clear k1 k2 k3 hQ2))
    all_goals
      go_wp2_with fail
      go_meet
      exact ⟨rfl, _, _, rfl, HK.out⟩
  case rest =>
    obtain ⟨rfl, qb, Fq, rfl, hZ⟩ := hcut
    have x80 : wc.cell? ⟨w.heap.size, 0, none⟩ = some (.int .u64 k) := hZ.hx.cell 0
    have x8f0 := hZ.hx.frozen 0
    have x81 : wc.cell? ⟨w.heap.size, 1, none⟩ = some (.int .i64 (-1)) := hZ.hx.cell 1
    have x8f1 := hZ.hx.frozen 1
    have x82 : wc.cell? ⟨w.heap.size, 2, none⟩ = some (.int .i64 (-1)) := hZ.hx.cell 2
    have x8f2 := hZ.hx.frozen 2
    have x8l := hZ.hx.lt
    have c80 : wc.cell? ⟨cb, 0, none⟩ = some (.pointer (some ⟨mb, 0, none⟩)) := hZ.hb.cell 0
    have c8f0 := hZ.hb.frozen 0
    have c81 : wc.cell? ⟨cb, 1, none⟩ = some (.pointer (some ⟨pb, 0, none⟩)) := hZ.hb.cell 1
    have c8f1 := hZ.hb.frozen 1
    have c82 : wc.cell? ⟨cb, 2, none⟩ = some (.int .i64 (-1)) := hZ.hb.cell 2
    have c8f2 := hZ.hb.frozen 2
    have c83 : wc.cell? ⟨cb, 3, none⟩ = some (.int .i64 (-1)) := hZ.hb.cell 3
    have c8f3 := hZ.hb.frozen 3
    have c8l := hZ.hb.lt
    have q80 : wc.cell? ⟨qb, 0, none⟩ = some (.int .i64 at_) := hZ.hq.cell 0
    have q8f0 := hZ.hq.frozen 0
    have q8l := hZ.hq.lt
    have hch1 := chain_change_bn cb pb mb qb Fq _ (-1) at_ wc hZ.pool (hZ.hb.cell 1) (hZ.hq.cell 0)
    have HZ := Hidden.mk hZ
    clear hZ
    go_wp2_with fail
    refine hch1.mono ?_; clear hch1; rintro e w3 ⟨rfl, p3, m3⟩
    have hX3 := HZ.out.hx.mod m3 HZ.out.nx
    have hB3 := HZ.out.hb.mod m3 HZ.out.nb
    have hQ3 := HZ.out.hq.mod m3 HZ.out.nq
    have x90 : w3.cell? ⟨w.heap.size, 0, none⟩ = some (.int .u64 k) := hX3.cell 0
    have x9f0 := hX3.frozen 0
    have x91 : w3.cell? ⟨w.heap.size, 1, none⟩ = some (.int .i64 (-1)) := hX3.cell 1
    have x9f1 := hX3.frozen 1
    have x92 : w3.cell? ⟨w.heap.size, 2, none⟩ = some (.int .i64 (-1)) := hX3.cell 2
    have x9f2 := hX3.frozen 2
    have x9l := hX3.lt
    have c90 : w3.cell? ⟨cb, 0, none⟩ = some (.pointer (some ⟨mb, 0, none⟩)) := hB3.cell 0
    have c9f0 := hB3.frozen 0
    have c91 : w3.cell? ⟨cb, 1, none⟩ = some (.pointer (some ⟨pb, 0, none⟩)) := hB3.cell 1
    have c9f1 := hB3.frozen 1
    have c92 : w3.cell? ⟨cb, 2, none⟩ = some (.int .i64 (-1)) := hB3.cell 2
    have c9f2 := hB3.frozen 2
    have c93 : w3.cell? ⟨cb, 3, none⟩ = some (.int .i64 (-1)) := hB3.cell 3
    have c9f3 := hB3.frozen 3
    have c9l := hB3.lt
    have q90 : w3.cell? ⟨qb, 0, none⟩ = some (.int .i64 at_) := hQ3.cell 0
    have q9f0 := hQ3.frozen 0
    have q9l := hQ3.lt
    have hch2 := chain_change_bp cb pb mb qb Fq _ (-1) at_ w3 p3 (hB3.cell 1) (hQ3.cell 0)
    have H3 := Hidden.mk (And.intro hX3 (And.intro hB3 (And.intro hQ3 m3)))
    clear hX3 hB3 hQ3 m3 p3
    go_wp2_with fail
    refine hch2.mono ?_; clear hch2; rintro e w4 ⟨rfl, p4, m4⟩
    have hX4 := H3.out.1.mod m4 HZ.out.nx
    have hB4 := H3.out.2.1.mod m4 HZ.out.nb
    have hQ4 := H3.out.2.2.1.mod m4 HZ.out.nq
    have x100 : w4.cell? ⟨w.heap.size, 0, none⟩ = some (.int .u64 k) := hX4.cell 0
    have x10f0 := hX4.frozen 0
    have x101 : w4.cell? ⟨w.heap.size, 1, none⟩ = some (.int .i64 (-1)) := hX4.cell 1
    have x10f1 := hX4.frozen 1
    have x102 : w4.cell? ⟨w.heap.size, 2, none⟩ = some (.int .i64 (-1)) := hX4.cell 2
    have x10f2 := hX4.frozen 2
    have x10l := hX4.lt
    have c100 : w4.cell? ⟨cb, 0, none⟩ = some (.pointer (some ⟨mb, 0, none⟩)) := hB4.cell 0
    have c10f0 := hB4.frozen 0
    have c101 : w4.cell? ⟨cb, 1, none⟩ = some (.pointer (some ⟨pb, 0, none⟩)) := hB4.cell 1
    have c10f1 := hB4.frozen 1
    have c102 : w4.cell? ⟨cb, 2, none⟩ = some (.int .i64 (-1)) := hB4.cell 2
    have c10f2 := hB4.frozen 2
    have c103 : w4.cell? ⟨cb, 3, none⟩ = some (.int .i64 (-1)) := hB4.cell 3
    have c10f3 := hB4.frozen 3
    have c10l := hB4.lt
    have q100 : w4.cell? ⟨qb, 0, none⟩ = some (.int .i64 at_) := hQ4.cell 0
    have q10f0 := hQ4.frozen 0
    have q10l := hQ4.lt
    have H4 := Hidden.mk (And.intro hB4 (And.intro m4 p4))
    clear hX4 hB4 hQ4 m4 p4
    go_wp2_with fail
    go_ret2
    have hfr := HZ.out.fresh
    have hgeF : ∀ x ∈ Fq, x ∈ cb :: Fp ∨ w.heap.size ≤ x := fun x hx => (hfr x hx).imp (fun h => by simp [h]) id
    have hm4 : Mod (cb :: Fp) w w4 := ((HZ.out.mod.mono (T := cb :: Fp) (fun x hx => .inl (by simp [hx]))).trans H3.out.2.2.2 hgeF).trans H4.out.2.1 hgeF
    refine HF.out Fq _ hfr ?_ ?_ ?_
    · exact ((H4.out.1.set 2 _).set 3 _)
    · refine H4.out.2.2.mod (S := [cb]) ?_ (by simpa using HZ.out.nb)
      exact (((Mod.refl _ _).set (.inl (by simp)) _).set (.inl (by simp)) _)
    · exact ((hm4.set (.inl (by simp)) _).set (.inl (by simp)) _)

set_option maxRecDepth 100000 in
set_option maxHeartbeats 4000000 in
theorem chain_behind_01 {w : World} {cb mb limit : Nat} {F : List Nat} {fr : Bool} {A B : CL} (k i : Int) (h : ChainAt w cb mb F limit fr (A ++ B)) (hi : i = lsC A (-1)) (hl : (A ++ B).length < limit) (hA : A = []) (hB : B ≠ []) :
    Calls Try.prog 77 #[.pointer (some ⟨cb, 0, none⟩), .int .i64 i, .int .u64 k] w (BehindPost w cb mb F limit fr A B k) := by
  obtain ⟨pb, Fp, s, rfl, hb, hp, hn, hL, hlim, hfr⟩ := h
  have hcb := hb.lt
  have hwf := hp.wf
  have hFp := hp.lt
  have hfin := fun Fq w' hq hb' hp' hm' => ChainAt.put (mb := mb) (pb := pb) (k := k) (w := w) (w' := w') (Fq := Fq) hL hwf hfr hn hcb hlim hb' hp' hq hm'
  have hal := fun W (hW : Mod [] w W) => pL_alloc (k, lsC A (-1), hdC B (-1)) (hp.mod hW (by simp)) (show s.alloc _ = (s.take _, s.nextAt, true) from by unfold PS.alloc; rw [if_pos (by rw [hL.live, hlim]; exact hl)])
  have hnx := PS.next_le hwf
  have e1 : hdC (A ++ (s.nextAt, k) :: B) (-1) = (s.nextAt : Int) := by subst hA; rfl
  have e2 : lsC (A ++ (s.nextAt, k) :: B) (-1) = lsC (A ++ B) (-1) := by rw [lsC_app, lsC_app]; exact lsC_ne hB _ _
  simp only [e1, e2] at hfin
  clear e1 e2
  subst hA
  have hi' : i = -1 := hi
  clear hi
  subst hi'
  obtain ⟨b0, hb0⟩ := hdC_nat hB (-1)
  have hnb : ((b0 : Int) == -1) = false := by simp
  simp only [List.nil_append, show lsC ([] : CL) (-1) = -1 from rfl, hb0] at hb hfin hal
  generalize lsC (B) (-1) = l0 at hb hfin
  have hpk := fun W (hW : Mod [] w W) => pL_peek_no (-1) (hp.mod hW (by simp)) (PS.get_neg s (by omega))
  have HB := Hidden.mk (And.intro hb (And.intro hn hFp))
  have HF := Hidden.mk hfin
  have c00 : w.cell? ⟨cb, 0, none⟩ = some (.pointer (some ⟨mb, 0, none⟩)) := hb.cell 0
  have c0f0 := hb.frozen 0
  have c01 : w.cell? ⟨cb, 1, none⟩ = some (.pointer (some ⟨pb, 0, none⟩)) := hb.cell 1
  have c0f1 := hb.frozen 1
  have c02 : w.cell? ⟨cb, 2, none⟩ = some (.int .i64 ((b0 : Int))) := hb.cell 2
  have c0f2 := hb.frozen 2
  have c03 : w.cell? ⟨cb, 3, none⟩ = some (.int .i64 (l0)) := hb.cell 3
  have c0f3 := hb.frozen 3
  have c0l := hb.lt
  try simp only at hal
  have hnx : (s.nextAt : Int) ≤ 9223372036854775807 := by omega
  clear hb hp hn hL hfr hfin hwf hFp hl hlim
  generalize hq : s.nextAt = at_ at *
  go_enter Try.func77, Try.ntmps77
  go_wp2_with fail
  refine (hpk _ ((Mod.refl _ w).alloc _)).mono ?_; clear hpk; rintro e w1 ⟨rfl, hm1⟩
  have hM1 : Mod [] w w1 := ((Mod.refl _ w).alloc _).trans hm1 (by simp)
  have hX1 : Blk w1 w.heap.size 121 #[.int .u64 k, .int .i64 (-1), .int .i64 ((b0 : Int))] := (Blk.new w _ _).mod hm1 (by simp)
  have hB1 := HB.out.1.mod hM1 (by simp)
  have x0 : w1.cell? ⟨w.heap.size, 0, none⟩ = some (.int .u64 k) := hX1.cell 0
  have xf0 := hX1.frozen 0
  have x1 : w1.cell? ⟨w.heap.size, 1, none⟩ = some (.int .i64 (-1)) := hX1.cell 1
  have xf1 := hX1.frozen 1
  have x2 : w1.cell? ⟨w.heap.size, 2, none⟩ = some (.int .i64 ((b0 : Int))) := hX1.cell 2
  have xf2 := hX1.frozen 2
  have xl := hX1.lt
  have c0 : w1.cell? ⟨cb, 0, none⟩ = some (.pointer (some ⟨mb, 0, none⟩)) := hB1.cell 0
  have cf0 := hB1.frozen 0
  have c1 : w1.cell? ⟨cb, 1, none⟩ = some (.pointer (some ⟨pb, 0, none⟩)) := hB1.cell 1
  have cf1 := hB1.frozen 1
  have c2 : w1.cell? ⟨cb, 2, none⟩ = some (.int .i64 ((b0 : Int))) := hB1.cell 2
  have cf2 := hB1.frozen 2
  have c3 : w1.cell? ⟨cb, 3, none⟩ = some (.int .i64 (l0)) := hB1.cell 3
  have cf3 := hB1.frozen 3
  have cl := hB1.lt
  go_upto_region 7 with fail
  obtain ⟨W7, hW7⟩ : ∃ W, (w1.alloc (.cells #[.int .u64 0, .int .i64 0, .int .i64 0] 121)) = W := ⟨_, rfl⟩
  have hM7 : Mod [] w W7 := by rw [← hW7]; exact hM1.alloc _
  have hX7 : Blk W7 w.heap.size 121 #[.int .u64 k, .int .i64 (-1), .int .i64 ((b0 : Int))] := by
    rw [← hW7]; exact hX1.alloc _
  have hB7 := HB.out.1.mod hM7 (by simp)
  have x70 : W7.cell? ⟨w.heap.size, 0, none⟩ = some (.int .u64 k) := hX7.cell 0
  have x7f0 := hX7.frozen 0
  have x71 : W7.cell? ⟨w.heap.size, 1, none⟩ = some (.int .i64 (-1)) := hX7.cell 1
  have x7f1 := hX7.frozen 1
  have x72 : W7.cell? ⟨w.heap.size, 2, none⟩ = some (.int .i64 ((b0 : Int))) := hX7.cell 2
  have x7f2 := hX7.frozen 2
  have x7l := hX7.lt
  have c70 : W7.cell? ⟨cb, 0, none⟩ = some (.pointer (some ⟨mb, 0, none⟩)) := hB7.cell 0
  have c7f0 := hB7.frozen 0
  have c71 : W7.cell? ⟨cb, 1, none⟩ = some (.pointer (some ⟨pb, 0, none⟩)) := hB7.cell 1
  have c7f1 := hB7.frozen 1
  have c72 : W7.cell? ⟨cb, 2, none⟩ = some (.int .i64 ((b0 : Int))) := hB7.cell 2
  have c7f2 := hB7.frozen 2
  have c73 : W7.cell? ⟨cb, 3, none⟩ = some (.int .i64 (l0)) := hB7.cell 3
  have c7f3 := hB7.frozen 3
  have c7l := hB7.lt
  have HW7 := Hidden.mk (And.intro hM7 (And.intro hX7 hB7))
  clear hM7 hX7 hB7 hm1 hX1 hB1 hM1
  simp only [hW7]
  clear hW7
  go_cut [11, 12] (fun q ok wx => ok = .bool true ∧ ∃ (qb : Nat) (Fq : List Nat), q = .pointer (some ⟨qb, 0, none⟩) ∧ Beh7 w wx cb pb mb Fp Fq (s.take (k, -1, (b0 : Int))) #[.pointer (some ⟨mb, 0, none⟩), .pointer (some ⟨pb, 0, none⟩), .int .i64 ((b0 : Int)), .int .i64 (l0)] #[.int .u64 k, .int .i64 (-1), .int .i64 ((b0 : Int))] w.heap.size qb at_)
  case first =>
    go_region_with (first | (go_at_call 109; refine (hal _ HW7.out.1.drew).mono ?_; rintro e w2 ⟨rfl, Fq, k1, k2, k3⟩; have HK := Hidden.mk (Beh7.callFirst (v := at_) HW7.out.1 HW7.out.2.1 HW7.out.2.2 HB.out.2.1 HB.out.2.2 (Nat.le_refl _) k1 k2 k3); clear k1 k2 k3) | (go_at_call 109; refine (hal _ (HW7.out.1.alloc _).drew).mono ?_; rintro e w2 ⟨rfl, Fq, k1, k2, k3⟩; have HK := Hidden.mk (Beh7.allocFirst (v := at_) HW7.out.1 HW7.out.2.1 HW7.out.2.2 HB.out.2.1 HB.out.2.2 (Nat.le_refl _) k1 k2 k3); have hQ2 := ((Blk.new W7 3 #[.int .i64 0]).drew).mod k2 (fun hk => by have h1 := HB.out.2.2 _ hk; have h2 := HW7.out.1.size; omega); have u0 : w2.cell? ⟨W7.heap.size, 0, none⟩ = some (.int .i64 0) := hQ2.cell 0; have uf0 := hQ2.frozen 0; have ul := hQ2.lt; clear k1 k2 k3 hQ2))
    all_goals
      go_wp2_with fail
      go_meet
      exact ⟨rfl, _, _, rfl, HK.out⟩
  case rest =>
    obtain ⟨rfl, qb, Fq, rfl, hZ⟩ := hcut
    have x80 : wc.cell? ⟨w.heap.size, 0, none⟩ = some (.int .u64 k) := hZ.hx.cell 0
    have x8f0 := hZ.hx.frozen 0
    have x81 : wc.cell? ⟨w.heap.size, 1, none⟩ = some (.int .i64 (-1)) := hZ.hx.cell 1
    have x8f1 := hZ.hx.frozen 1
    have x82 : wc.cell? ⟨w.heap.size, 2, none⟩ = some (.int .i64 ((b0 : Int))) := hZ.hx.cell 2
    have x8f2 := hZ.hx.frozen 2
    have x8l := hZ.hx.lt
    have c80 : wc.cell? ⟨cb, 0, none⟩ = some (.pointer (some ⟨mb, 0, none⟩)) := hZ.hb.cell 0
    have c8f0 := hZ.hb.frozen 0
    have c81 : wc.cell? ⟨cb, 1, none⟩ = some (.pointer (some ⟨pb, 0, none⟩)) := hZ.hb.cell 1
    have c8f1 := hZ.hb.frozen 1
    have c82 : wc.cell? ⟨cb, 2, none⟩ = some (.int .i64 ((b0 : Int))) := hZ.hb.cell 2
    have c8f2 := hZ.hb.frozen 2
    have c83 : wc.cell? ⟨cb, 3, none⟩ = some (.int .i64 (l0)) := hZ.hb.cell 3
    have c8f3 := hZ.hb.frozen 3
    have c8l := hZ.hb.lt
    have q80 : wc.cell? ⟨qb, 0, none⟩ = some (.int .i64 at_) := hZ.hq.cell 0
    have q8f0 := hZ.hq.frozen 0
    have q8l := hZ.hq.lt
    have hch1 := chain_change_bn cb pb mb qb Fq _ (-1) at_ wc hZ.pool (hZ.hb.cell 1) (hZ.hq.cell 0)
    have HZ := Hidden.mk hZ
    clear hZ
    go_wp2_with fail
    refine hch1.mono ?_; clear hch1; rintro e w3 ⟨rfl, p3, m3⟩
    have hX3 := HZ.out.hx.mod m3 HZ.out.nx
    have hB3 := HZ.out.hb.mod m3 HZ.out.nb
    have hQ3 := HZ.out.hq.mod m3 HZ.out.nq
    have x90 : w3.cell? ⟨w.heap.size, 0, none⟩ = some (.int .u64 k) := hX3.cell 0
    have x9f0 := hX3.frozen 0
    have x91 : w3.cell? ⟨w.heap.size, 1, none⟩ = some (.int .i64 (-1)) := hX3.cell 1
    have x9f1 := hX3.frozen 1
    have x92 : w3.cell? ⟨w.heap.size, 2, none⟩ = some (.int .i64 ((b0 : Int))) := hX3.cell 2
    have x9f2 := hX3.frozen 2
    have x9l := hX3.lt
    have c90 : w3.cell? ⟨cb, 0, none⟩ = some (.pointer (some ⟨mb, 0, none⟩)) := hB3.cell 0
    have c9f0 := hB3.frozen 0
    have c91 : w3.cell? ⟨cb, 1, none⟩ = some (.pointer (some ⟨pb, 0, none⟩)) := hB3.cell 1
    have c9f1 := hB3.frozen 1
    have c92 : w3.cell? ⟨cb, 2, none⟩ = some (.int .i64 ((b0 : Int))) := hB3.cell 2
    have c9f2 := hB3.frozen 2
    have c93 : w3.cell? ⟨cb, 3, none⟩ = some (.int .i64 (l0)) := hB3.cell 3
    have c9f3 := hB3.frozen 3
    have c9l := hB3.lt
    have q90 : w3.cell? ⟨qb, 0, none⟩ = some (.int .i64 at_) := hQ3.cell 0
    have q9f0 := hQ3.frozen 0
    have q9l := hQ3.lt
    have hch2 := chain_change_bp cb pb mb qb Fq _ ((b0 : Int)) at_ w3 p3 (hB3.cell 1) (hQ3.cell 0)
    have H3 := Hidden.mk (And.intro hX3 (And.intro hB3 (And.intro hQ3 m3)))
    clear hX3 hB3 hQ3 m3 p3
    go_wp2_with fail
    refine hch2.mono ?_; clear hch2; rintro e w4 ⟨rfl, p4, m4⟩
    have hX4 := H3.out.1.mod m4 HZ.out.nx
    have hB4 := H3.out.2.1.mod m4 HZ.out.nb
    have hQ4 := H3.out.2.2.1.mod m4 HZ.out.nq
    have x100 : w4.cell? ⟨w.heap.size, 0, none⟩ = some (.int .u64 k) := hX4.cell 0
    have x10f0 := hX4.frozen 0
    have x101 : w4.cell? ⟨w.heap.size, 1, none⟩ = some (.int .i64 (-1)) := hX4.cell 1
    have x10f1 := hX4.frozen 1
    have x102 : w4.cell? ⟨w.heap.size, 2, none⟩ = some (.int .i64 ((b0 : Int))) := hX4.cell 2
    have x10f2 := hX4.frozen 2
    have x10l := hX4.lt
    have c100 : w4.cell? ⟨cb, 0, none⟩ = some (.pointer (some ⟨mb, 0, none⟩)) := hB4.cell 0
    have c10f0 := hB4.frozen 0
    have c101 : w4.cell? ⟨cb, 1, none⟩ = some (.pointer (some ⟨pb, 0, none⟩)) := hB4.cell 1
    have c10f1 := hB4.frozen 1
    have c102 : w4.cell? ⟨cb, 2, none⟩ = some (.int .i64 ((b0 : Int))) := hB4.cell 2
    have c10f2 := hB4.frozen 2
    have c103 : w4.cell? ⟨cb, 3, none⟩ = some (.int .i64 (l0)) := hB4.cell 3
    have c10f3 := hB4.frozen 3
    have c10l := hB4.lt
    have q100 : w4.cell? ⟨qb, 0, none⟩ = some (.int .i64 at_) := hQ4.cell 0
    have q10f0 := hQ4.frozen 0
    have q10l := hQ4.lt
    have H4 := Hidden.mk (And.intro hB4 (And.intro m4 p4))
    clear hX4 hB4 hQ4 m4 p4
    go_wp2_with fail
    go_ret2
    have hfr := HZ.out.fresh
    have hgeF : ∀ x ∈ Fq, x ∈ cb :: Fp ∨ w.heap.size ≤ x := fun x hx => (hfr x hx).imp (fun h => by simp [h]) id
    have hm4 : Mod (cb :: Fp) w w4 := ((HZ.out.mod.mono (T := cb :: Fp) (fun x hx => .inl (by simp [hx]))).trans H3.out.2.2.2 hgeF).trans H4.out.2.1 hgeF
    refine HF.out Fq _ hfr ?_ ?_ ?_
    · exact (H4.out.1.set 2 _)
    · refine H4.out.2.2.mod (S := [cb]) ?_ (by simpa using HZ.out.nb)
      exact ((Mod.refl _ _).set (.inl (by simp)) _)
    · exact (hm4.set (.inl (by simp)) _)

set_option maxRecDepth 100000 in
set_option maxHeartbeats 4000000 in
theorem chain_behind_10 {w : World} {cb mb limit : Nat} {F : List Nat} {fr : Bool} {A B : CL} (k i : Int) (h : ChainAt w cb mb F limit fr (A ++ B)) (hi : i = lsC A (-1)) (hl : (A ++ B).length < limit) (hA : A ≠ []) (hB : B = []) :
    Calls Try.prog 77 #[.pointer (some ⟨cb, 0, none⟩), .int .i64 i, .int .u64 k] w (BehindPost w cb mb F limit fr A B k) := by
  obtain ⟨pb, Fp, s, rfl, hb, hp, hn, hL, hlim, hfr⟩ := h
  have hcb := hb.lt
  have hwf := hp.wf
  have hFp := hp.lt
  have hfin := fun Fq w' hq hb' hp' hm' => ChainAt.put (mb := mb) (pb := pb) (k := k) (w := w) (w' := w') (Fq := Fq) hL hwf hfr hn hcb hlim hb' hp' hq hm'
  have hal := fun W (hW : Mod [] w W) => pL_alloc (k, lsC A (-1), hdC B (-1)) (hp.mod hW (by simp)) (show s.alloc _ = (s.take _, s.nextAt, true) from by unfold PS.alloc; rw [if_pos (by rw [hL.live, hlim]; exact hl)])
  have hnx := PS.next_le hwf
  have e1 : hdC (A ++ (s.nextAt, k) :: B) (-1) = hdC (A ++ B) (-1) := by rw [hdC_app, hdC_app]; exact hdC_ne hA _ _
  have e2 : lsC (A ++ (s.nextAt, k) :: B) (-1) = (s.nextAt : Int) := by subst hB; exact lsC_snoc _ _ _
  simp only [e1, e2] at hfin
  clear e1 e2
  obtain ⟨a0, k0, p0, hla, hga⟩ := hL.seg.last hA
  have hna : ((a0 : Int) == -1) = false := by simp
  subst hB
  simp only [hla, List.append_nil, show hdC ([] : CL) (-1) = -1 from rfl] at hb hfin hal hga
  generalize hdC (A) (-1) = f0 at hb hfin
  have hi' : i = (a0 : Int) := by rw [hi]; exact hla
  clear hi
  subst hi'
  have hlv := fun W (hW : Mod [] w W) => pL_live (a0 : Int) (hp.mod hW (by simp))
  have hpk := fun W (hW : Mod [] w W) => pL_peek_yes (a0 : Int) (hp.mod hW (by simp)) hga
  rw [hga] at hlv
  simp only [Option.isSome_some] at hlv hpk
  have HB := Hidden.mk (And.intro hb (And.intro hn hFp))
  have HF := Hidden.mk hfin
  have c00 : w.cell? ⟨cb, 0, none⟩ = some (.pointer (some ⟨mb, 0, none⟩)) := hb.cell 0
  have c0f0 := hb.frozen 0
  have c01 : w.cell? ⟨cb, 1, none⟩ = some (.pointer (some ⟨pb, 0, none⟩)) := hb.cell 1
  have c0f1 := hb.frozen 1
  have c02 : w.cell? ⟨cb, 2, none⟩ = some (.int .i64 (f0)) := hb.cell 2
  have c0f2 := hb.frozen 2
  have c03 : w.cell? ⟨cb, 3, none⟩ = some (.int .i64 ((a0 : Int))) := hb.cell 3
  have c0f3 := hb.frozen 3
  have c0l := hb.lt
  try simp only at hal
  have hnx : (s.nextAt : Int) ≤ 9223372036854775807 := by omega
  clear hb hp hn hL hfr hfin hwf hFp hl hlim
  generalize hq : s.nextAt = at_ at *
  go_enter Try.func77, Try.ntmps77
  go_wp2_with fail
  refine (hlv _ (Mod.refl _ w)).mono ?_; clear hlv; rintro e w' ⟨rfl, rfl⟩
  go_wp2_with fail
  refine (hpk _ ((Mod.refl _ w).alloc _)).mono ?_; clear hpk; rintro e w1 ⟨rfl, hm1⟩
  have hM1 : Mod [] w w1 := ((Mod.refl _ w).alloc _).trans hm1 (by simp)
  have hX1 : Blk w1 w.heap.size 121 #[.int .u64 k, .int .i64 ((a0 : Int)), .int .i64 (f0)] := (Blk.new w _ _).mod hm1 (by simp)
  have hB1 := HB.out.1.mod hM1 (by simp)
  have x0 : w1.cell? ⟨w.heap.size, 0, none⟩ = some (.int .u64 k) := hX1.cell 0
  have xf0 := hX1.frozen 0
  have x1 : w1.cell? ⟨w.heap.size, 1, none⟩ = some (.int .i64 ((a0 : Int))) := hX1.cell 1
  have xf1 := hX1.frozen 1
  have x2 : w1.cell? ⟨w.heap.size, 2, none⟩ = some (.int .i64 (f0)) := hX1.cell 2
  have xf2 := hX1.frozen 2
  have xl := hX1.lt
  have c0 : w1.cell? ⟨cb, 0, none⟩ = some (.pointer (some ⟨mb, 0, none⟩)) := hB1.cell 0
  have cf0 := hB1.frozen 0
  have c1 : w1.cell? ⟨cb, 1, none⟩ = some (.pointer (some ⟨pb, 0, none⟩)) := hB1.cell 1
  have cf1 := hB1.frozen 1
  have c2 : w1.cell? ⟨cb, 2, none⟩ = some (.int .i64 (f0)) := hB1.cell 2
  have cf2 := hB1.frozen 2
  have c3 : w1.cell? ⟨cb, 3, none⟩ = some (.int .i64 ((a0 : Int))) := hB1.cell 3
  have cf3 := hB1.frozen 3
  have cl := hB1.lt
  go_upto_region 7 with fail
  obtain ⟨W7, hW7⟩ : ∃ W, ((w1.setCell ⟨w.heap.size, 2, none⟩ (.int .i64 (-1))).alloc (.cells #[.int .u64 k0, .int .i64 p0, .int .i64 (-1)] 121)) = W := ⟨_, rfl⟩
  have hM7 : Mod [] w W7 := by rw [← hW7]; exact (hM1.set (.inr (by simp)) _).alloc _
  have hX7 : Blk W7 w.heap.size 121 #[.int .u64 k, .int .i64 ((a0 : Int)), .int .i64 (-1)] := by
    rw [← hW7]; exact (hX1.set 2 _).alloc _
  have hB7 := HB.out.1.mod hM7 (by simp)
  have x70 : W7.cell? ⟨w.heap.size, 0, none⟩ = some (.int .u64 k) := hX7.cell 0
  have x7f0 := hX7.frozen 0
  have x71 : W7.cell? ⟨w.heap.size, 1, none⟩ = some (.int .i64 ((a0 : Int))) := hX7.cell 1
  have x7f1 := hX7.frozen 1
  have x72 : W7.cell? ⟨w.heap.size, 2, none⟩ = some (.int .i64 (-1)) := hX7.cell 2
  have x7f2 := hX7.frozen 2
  have x7l := hX7.lt
  have c70 : W7.cell? ⟨cb, 0, none⟩ = some (.pointer (some ⟨mb, 0, none⟩)) := hB7.cell 0
  have c7f0 := hB7.frozen 0
  have c71 : W7.cell? ⟨cb, 1, none⟩ = some (.pointer (some ⟨pb, 0, none⟩)) := hB7.cell 1
  have c7f1 := hB7.frozen 1
  have c72 : W7.cell? ⟨cb, 2, none⟩ = some (.int .i64 (f0)) := hB7.cell 2
  have c7f2 := hB7.frozen 2
  have c73 : W7.cell? ⟨cb, 3, none⟩ = some (.int .i64 ((a0 : Int))) := hB7.cell 3
  have c7f3 := hB7.frozen 3
  have c7l := hB7.lt
  have HW7 := Hidden.mk (And.intro hM7 (And.intro hX7 hB7))
  clear hM7 hX7 hB7 hm1 hX1 hB1 hM1
  simp only [hW7]
  clear hW7
  go_cut [11, 12] (fun q ok wx => ok = .bool true ∧ ∃ (qb : Nat) (Fq : List Nat), q = .pointer (some ⟨qb, 0, none⟩) ∧ Beh7 w wx cb pb mb Fp Fq (s.take (k, (a0 : Int), -1)) #[.pointer (some ⟨mb, 0, none⟩), .pointer (some ⟨pb, 0, none⟩), .int .i64 (f0), .int .i64 ((a0 : Int))] #[.int .u64 k, .int .i64 ((a0 : Int)), .int .i64 (-1)] w.heap.size qb at_)
  case first =>
    go_region_with (first | (go_at_call 109; refine (hal _ HW7.out.1.drew).mono ?_; rintro e w2 ⟨rfl, Fq, k1, k2, k3⟩; have HK := Hidden.mk (Beh7.callFirst (v := at_) HW7.out.1 HW7.out.2.1 HW7.out.2.2 HB.out.2.1 HB.out.2.2 (Nat.le_refl _) k1 k2 k3); clear k1 k2 k3) | (go_at_call 109; refine (hal _ (HW7.out.1.alloc _).drew).mono ?_; rintro e w2 ⟨rfl, Fq, k1, k2, k3⟩; have HK := Hidden.mk (Beh7.allocFirst (v := at_) HW7.out.1 HW7.out.2.1 HW7.out.2.2 HB.out.2.1 HB.out.2.2 (Nat.le_refl _) k1 k2 k3); have hQ2 := ((Blk.new W7 3 #[.int .i64 0]).drew).mod k2 (fun hk => by have h1 := HB.out.2.2 _ hk; have h2 := HW7.out.1.size; omega); have u0 : w2.cell? ⟨W7.heap.size, 0, none⟩ = some (.int .i64 0) := hQ2.cell 0; have uf0 := hQ2.frozen 0; have ul := hQ2.lt; clear k1 k2 k3 hQ2))
    all_goals
      go_wp2_with fail
      go_meet
      exact ⟨rfl, _, _, rfl, HK.out⟩
  case rest =>
    obtain ⟨rfl, qb, Fq, rfl, hZ⟩ := hcut
    have x80 : wc.cell? ⟨w.heap.size, 0, none⟩ = some (.int .u64 k) := hZ.hx.cell 0
    have x8f0 := hZ.hx.frozen 0
    have x81 : wc.cell? ⟨w.heap.size, 1, none⟩ = some (.int .i64 ((a0 : Int))) := hZ.hx.cell 1
    have x8f1 := hZ.hx.frozen 1
    have x82 : wc.cell? ⟨w.heap.size, 2, none⟩ = some (.int .i64 (-1)) := hZ.hx.cell 2
    have x8f2 := hZ.hx.frozen 2
    have x8l := hZ.hx.lt
    have c80 : wc.cell? ⟨cb, 0, none⟩ = some (.pointer (some ⟨mb, 0, none⟩)) := hZ.hb.cell 0
    have c8f0 := hZ.hb.frozen 0
    have c81 : wc.cell? ⟨cb, 1, none⟩ = some (.pointer (some ⟨pb, 0, none⟩)) := hZ.hb.cell 1
    have c8f1 := hZ.hb.frozen 1
    have c82 : wc.cell? ⟨cb, 2, none⟩ = some (.int .i64 (f0)) := hZ.hb.cell 2
    have c8f2 := hZ.hb.frozen 2
    have c83 : wc.cell? ⟨cb, 3, none⟩ = some (.int .i64 ((a0 : Int))) := hZ.hb.cell 3
    have c8f3 := hZ.hb.frozen 3
    have c8l := hZ.hb.lt
    have q80 : wc.cell? ⟨qb, 0, none⟩ = some (.int .i64 at_) := hZ.hq.cell 0
    have q8f0 := hZ.hq.frozen 0
    have q8l := hZ.hq.lt
    have hch1 := chain_change_bn cb pb mb qb Fq _ ((a0 : Int)) at_ wc hZ.pool (hZ.hb.cell 1) (hZ.hq.cell 0)
    have HZ := Hidden.mk hZ
    clear hZ
    go_wp2_with fail
    refine hch1.mono ?_; clear hch1; rintro e w3 ⟨rfl, p3, m3⟩
    have hX3 := HZ.out.hx.mod m3 HZ.out.nx
    have hB3 := HZ.out.hb.mod m3 HZ.out.nb
    have hQ3 := HZ.out.hq.mod m3 HZ.out.nq
    have x90 : w3.cell? ⟨w.heap.size, 0, none⟩ = some (.int .u64 k) := hX3.cell 0
    have x9f0 := hX3.frozen 0
    have x91 : w3.cell? ⟨w.heap.size, 1, none⟩ = some (.int .i64 ((a0 : Int))) := hX3.cell 1
    have x9f1 := hX3.frozen 1
    have x92 : w3.cell? ⟨w.heap.size, 2, none⟩ = some (.int .i64 (-1)) := hX3.cell 2
    have x9f2 := hX3.frozen 2
    have x9l := hX3.lt
    have c90 : w3.cell? ⟨cb, 0, none⟩ = some (.pointer (some ⟨mb, 0, none⟩)) := hB3.cell 0
    have c9f0 := hB3.frozen 0
    have c91 : w3.cell? ⟨cb, 1, none⟩ = some (.pointer (some ⟨pb, 0, none⟩)) := hB3.cell 1
    have c9f1 := hB3.frozen 1
    have c92 : w3.cell? ⟨cb, 2, none⟩ = some (.int .i64 (f0)) := hB3.cell 2
    have c9f2 := hB3.frozen 2
    have c93 : w3.cell? ⟨cb, 3, none⟩ = some (.int .i64 ((a0 : Int))) := hB3.cell 3
    have c9f3 := hB3.frozen 3
    have c9l := hB3.lt
    have q90 : w3.cell? ⟨qb, 0, none⟩ = some (.int .i64 at_) := hQ3.cell 0
    have q9f0 := hQ3.frozen 0
    have q9l := hQ3.lt
    have hch2 := chain_change_bp cb pb mb qb Fq _ (-1) at_ w3 p3 (hB3.cell 1) (hQ3.cell 0)
    have H3 := Hidden.mk (And.intro hX3 (And.intro hB3 (And.intro hQ3 m3)))
    clear hX3 hB3 hQ3 m3 p3
    go_wp2_with fail
    refine hch2.mono ?_; clear hch2; rintro e w4 ⟨rfl, p4, m4⟩
    have hX4 := H3.out.1.mod m4 HZ.out.nx
    have hB4 := H3.out.2.1.mod m4 HZ.out.nb
    have hQ4 := H3.out.2.2.1.mod m4 HZ.out.nq
    have x100 : w4.cell? ⟨w.heap.size, 0, none⟩ = some (.int .u64 k) := hX4.cell 0
    have x10f0 := hX4.frozen 0
    have x101 : w4.cell? ⟨w.heap.size, 1, none⟩ = some (.int .i64 ((a0 : Int))) := hX4.cell 1
    have x10f1 := hX4.frozen 1
    have x102 : w4.cell? ⟨w.heap.size, 2, none⟩ = some (.int .i64 (-1)) := hX4.cell 2
    have x10f2 := hX4.frozen 2
    have x10l := hX4.lt
    have c100 : w4.cell? ⟨cb, 0, none⟩ = some (.pointer (some ⟨mb, 0, none⟩)) := hB4.cell 0
    have c10f0 := hB4.frozen 0
    have c101 : w4.cell? ⟨cb, 1, none⟩ = some (.pointer (some ⟨pb, 0, none⟩)) := hB4.cell 1
    have c10f1 := hB4.frozen 1
    have c102 : w4.cell? ⟨cb, 2, none⟩ = some (.int .i64 (f0)) := hB4.cell 2
    have c10f2 := hB4.frozen 2
    have c103 : w4.cell? ⟨cb, 3, none⟩ = some (.int .i64 ((a0 : Int))) := hB4.cell 3
    have c10f3 := hB4.frozen 3
    have c10l := hB4.lt
    have q100 : w4.cell? ⟨qb, 0, none⟩ = some (.int .i64 at_) := hQ4.cell 0
    have q10f0 := hQ4.frozen 0
    have q10l := hQ4.lt
    have H4 := Hidden.mk (And.intro hB4 (And.intro m4 p4))
    clear hX4 hB4 hQ4 m4 p4
    go_wp2_with fail
    go_ret2
    have hfr := HZ.out.fresh
    have hgeF : ∀ x ∈ Fq, x ∈ cb :: Fp ∨ w.heap.size ≤ x := fun x hx => (hfr x hx).imp (fun h => by simp [h]) id
    have hm4 : Mod (cb :: Fp) w w4 := ((HZ.out.mod.mono (T := cb :: Fp) (fun x hx => .inl (by simp [hx]))).trans H3.out.2.2.2 hgeF).trans H4.out.2.1 hgeF
    refine HF.out Fq _ hfr ?_ ?_ ?_
    · exact (H4.out.1.set 3 _)
    · refine H4.out.2.2.mod (S := [cb]) ?_ (by simpa using HZ.out.nb)
      exact ((Mod.refl _ _).set (.inl (by simp)) _)
    · exact (hm4.set (.inl (by simp)) _)

set_option maxRecDepth 100000 in
set_option maxHeartbeats 4000000 in
theorem chain_behind_11 {w : World} {cb mb limit : Nat} {F : List Nat} {fr : Bool} {A B : CL} (k i : Int) (h : ChainAt w cb mb F limit fr (A ++ B)) (hi : i = lsC A (-1)) (hl : (A ++ B).length < limit) (hA : A ≠ []) (hB : B ≠ []) :
    Calls Try.prog 77 #[.pointer (some ⟨cb, 0, none⟩), .int .i64 i, .int .u64 k] w (BehindPost w cb mb F limit fr A B k) := by
  obtain ⟨pb, Fp, s, rfl, hb, hp, hn, hL, hlim, hfr⟩ := h
  have hcb := hb.lt
  have hwf := hp.wf
  have hFp := hp.lt
  have hfin := fun Fq w' hq hb' hp' hm' => ChainAt.put (mb := mb) (pb := pb) (k := k) (w := w) (w' := w') (Fq := Fq) hL hwf hfr hn hcb hlim hb' hp' hq hm'
  have hal := fun W (hW : Mod [] w W) => pL_alloc (k, lsC A (-1), hdC B (-1)) (hp.mod hW (by simp)) (show s.alloc _ = (s.take _, s.nextAt, true) from by unfold PS.alloc; rw [if_pos (by rw [hL.live, hlim]; exact hl)])
  have hnx := PS.next_le hwf
  have e1 : hdC (A ++ (s.nextAt, k) :: B) (-1) = hdC (A ++ B) (-1) := by rw [hdC_app, hdC_app]; exact hdC_ne hA _ _
  have e2 : lsC (A ++ (s.nextAt, k) :: B) (-1) = lsC (A ++ B) (-1) := by rw [lsC_app, lsC_app]; exact lsC_ne hB _ _
  simp only [e1, e2] at hfin
  clear e1 e2
  obtain ⟨a0, k0, p0, hla, hga⟩ := hL.seg.last hA
  have hna : ((a0 : Int) == -1) = false := by simp
  obtain ⟨b0, hb0⟩ := hdC_nat hB (-1)
  have hnb : ((b0 : Int) == -1) = false := by simp
  simp only [hla, hb0] at hb hfin hal hga
  generalize hdC (A ++ B) (-1) = f0 at hb hfin
  generalize lsC (A ++ B) (-1) = l0 at hb hfin
  have hi' : i = (a0 : Int) := by rw [hi]; exact hla
  clear hi
  subst hi'
  have hlv := fun W (hW : Mod [] w W) => pL_live (a0 : Int) (hp.mod hW (by simp))
  have hpk := fun W (hW : Mod [] w W) => pL_peek_yes (a0 : Int) (hp.mod hW (by simp)) hga
  rw [hga] at hlv
  simp only [Option.isSome_some] at hlv hpk
  have HB := Hidden.mk (And.intro hb (And.intro hn hFp))
  have HF := Hidden.mk hfin
  have c00 : w.cell? ⟨cb, 0, none⟩ = some (.pointer (some ⟨mb, 0, none⟩)) := hb.cell 0
  have c0f0 := hb.frozen 0
  have c01 : w.cell? ⟨cb, 1, none⟩ = some (.pointer (some ⟨pb, 0, none⟩)) := hb.cell 1
  have c0f1 := hb.frozen 1
  have c02 : w.cell? ⟨cb, 2, none⟩ = some (.int .i64 (f0)) := hb.cell 2
  have c0f2 := hb.frozen 2
  have c03 : w.cell? ⟨cb, 3, none⟩ = some (.int .i64 (l0)) := hb.cell 3
  have c0f3 := hb.frozen 3
  have c0l := hb.lt
  try simp only at hal
  have hnx : (s.nextAt : Int) ≤ 9223372036854775807 := by omega
  clear hb hp hn hL hfr hfin hwf hFp hl hlim
  generalize hq : s.nextAt = at_ at *
  go_enter Try.func77, Try.ntmps77
  go_wp2_with fail
  refine (hlv _ (Mod.refl _ w)).mono ?_; clear hlv; rintro e w' ⟨rfl, rfl⟩
  go_wp2_with fail
  refine (hpk _ ((Mod.refl _ w).alloc _)).mono ?_; clear hpk; rintro e w1 ⟨rfl, hm1⟩
  have hM1 : Mod [] w w1 := ((Mod.refl _ w).alloc _).trans hm1 (by simp)
  have hX1 : Blk w1 w.heap.size 121 #[.int .u64 k, .int .i64 ((a0 : Int)), .int .i64 (f0)] := (Blk.new w _ _).mod hm1 (by simp)
  have hB1 := HB.out.1.mod hM1 (by simp)
  have x0 : w1.cell? ⟨w.heap.size, 0, none⟩ = some (.int .u64 k) := hX1.cell 0
  have xf0 := hX1.frozen 0
  have x1 : w1.cell? ⟨w.heap.size, 1, none⟩ = some (.int .i64 ((a0 : Int))) := hX1.cell 1
  have xf1 := hX1.frozen 1
  have x2 : w1.cell? ⟨w.heap.size, 2, none⟩ = some (.int .i64 (f0)) := hX1.cell 2
  have xf2 := hX1.frozen 2
  have xl := hX1.lt
  have c0 : w1.cell? ⟨cb, 0, none⟩ = some (.pointer (some ⟨mb, 0, none⟩)) := hB1.cell 0
  have cf0 := hB1.frozen 0
  have c1 : w1.cell? ⟨cb, 1, none⟩ = some (.pointer (some ⟨pb, 0, none⟩)) := hB1.cell 1
  have cf1 := hB1.frozen 1
  have c2 : w1.cell? ⟨cb, 2, none⟩ = some (.int .i64 (f0)) := hB1.cell 2
  have cf2 := hB1.frozen 2
  have c3 : w1.cell? ⟨cb, 3, none⟩ = some (.int .i64 (l0)) := hB1.cell 3
  have cf3 := hB1.frozen 3
  have cl := hB1.lt
  go_upto_region 7 with fail
  obtain ⟨W7, hW7⟩ : ∃ W, ((w1.setCell ⟨w.heap.size, 2, none⟩ (.int .i64 ((b0 : Int)))).alloc (.cells #[.int .u64 k0, .int .i64 p0, .int .i64 ((b0 : Int))] 121)) = W := ⟨_, rfl⟩
  have hM7 : Mod [] w W7 := by rw [← hW7]; exact (hM1.set (.inr (by simp)) _).alloc _
  have hX7 : Blk W7 w.heap.size 121 #[.int .u64 k, .int .i64 ((a0 : Int)), .int .i64 ((b0 : Int))] := by
    rw [← hW7]; exact (hX1.set 2 _).alloc _
  have hB7 := HB.out.1.mod hM7 (by simp)
  have x70 : W7.cell? ⟨w.heap.size, 0, none⟩ = some (.int .u64 k) := hX7.cell 0
  have x7f0 := hX7.frozen 0
  have x71 : W7.cell? ⟨w.heap.size, 1, none⟩ = some (.int .i64 ((a0 : Int))) := hX7.cell 1
  have x7f1 := hX7.frozen 1
  have x72 : W7.cell? ⟨w.heap.size, 2, none⟩ = some (.int .i64 ((b0 : Int))) := hX7.cell 2
  have x7f2 := hX7.frozen 2
  have x7l := hX7.lt
  have c70 : W7.cell? ⟨cb, 0, none⟩ = some (.pointer (some ⟨mb, 0, none⟩)) := hB7.cell 0
  have c7f0 := hB7.frozen 0
  have c71 : W7.cell? ⟨cb, 1, none⟩ = some (.pointer (some ⟨pb, 0, none⟩)) := hB7.cell 1
  have c7f1 := hB7.frozen 1
  have c72 : W7.cell? ⟨cb, 2, none⟩ = some (.int .i64 (f0)) := hB7.cell 2
  have c7f2 := hB7.frozen 2
  have c73 : W7.cell? ⟨cb, 3, none⟩ = some (.int .i64 (l0)) := hB7.cell 3
  have c7f3 := hB7.frozen 3
  have c7l := hB7.lt
  have HW7 := Hidden.mk (And.intro hM7 (And.intro hX7 hB7))
  clear hM7 hX7 hB7 hm1 hX1 hB1 hM1
  simp only [hW7]
  clear hW7
  go_cut [11, 12] (fun q ok wx => ok = .bool true ∧ ∃ (qb : Nat) (Fq : List Nat), q = .pointer (some ⟨qb, 0, none⟩) ∧ Beh7 w wx cb pb mb Fp Fq (s.take (k, (a0 : Int), (b0 : Int))) #[.pointer (some ⟨mb, 0, none⟩), .pointer (some ⟨pb, 0, none⟩), .int .i64 (f0), .int .i64 (l0)] #[.int .u64 k, .int .i64 ((a0 : Int)), .int .i64 ((b0 : Int))] w.heap.size qb at_)
  case first =>
    go_region_with (first | (go_at_call 109; refine (hal _ HW7.out.1.drew).mono ?_; rintro e w2 ⟨rfl, Fq, k1, k2, k3⟩; have HK := Hidden.mk (Beh7.callFirst (v := at_) HW7.out.1 HW7.out.2.1 HW7.out.2.2 HB.out.2.1 HB.out.2.2 (Nat.le_refl _) k1 k2 k3); clear k1 k2 k3) | (go_at_call 109; refine (hal _ (HW7.out.1.alloc _).drew).mono ?_; rintro e w2 ⟨rfl, Fq, k1, k2, k3⟩; have HK := Hidden.mk (Beh7.allocFirst (v := at_) HW7.out.1 HW7.out.2.1 HW7.out.2.2 HB.out.2.1 HB.out.2.2 (Nat.le_refl _) k1 k2 k3); have hQ2 := ((Blk.new W7 3 #[.int .i64 0]).drew).mod k2 (fun hk => by have h1 := HB.out.2.2 _ hk; have h2 := HW7.out.1.size; omega); have u0 : w2.cell? ⟨W7.heap.size, 0, none⟩ = some (.int .i64 0) := hQ2.cell 0; have uf0 := hQ2.frozen 0; have ul := hQ2.lt; clear k1 k2 k3 hQ2))
    all_goals
      go_wp2_with fail
      go_meet
      exact ⟨rfl, _, _, rfl, HK.out⟩
  case rest =>
    obtain ⟨rfl, qb, Fq, rfl, hZ⟩ := hcut
    have x80 : wc.cell? ⟨w.heap.size, 0, none⟩ = some (.int .u64 k) := hZ.hx.cell 0
    have x8f0 := hZ.hx.frozen 0
    have x81 : wc.cell? ⟨w.heap.size, 1, none⟩ = some (.int .i64 ((a0 : Int))) := hZ.hx.cell 1
    have x8f1 := hZ.hx.frozen 1
    have x82 : wc.cell? ⟨w.heap.size, 2, none⟩ = some (.int .i64 ((b0 : Int))) := hZ.hx.cell 2
    have x8f2 := hZ.hx.frozen 2
    have x8l := hZ.hx.lt
    have c80 : wc.cell? ⟨cb, 0, none⟩ = some (.pointer (some ⟨mb, 0, none⟩)) := hZ.hb.cell 0
    have c8f0 := hZ.hb.frozen 0
    have c81 : wc.cell? ⟨cb, 1, none⟩ = some (.pointer (some ⟨pb, 0, none⟩)) := hZ.hb.cell 1
    have c8f1 := hZ.hb.frozen 1
    have c82 : wc.cell? ⟨cb, 2, none⟩ = some (.int .i64 (f0)) := hZ.hb.cell 2
    have c8f2 := hZ.hb.frozen 2
    have c83 : wc.cell? ⟨cb, 3, none⟩ = some (.int .i64 (l0)) := hZ.hb.cell 3
    have c8f3 := hZ.hb.frozen 3
    have c8l := hZ.hb.lt
    have q80 : wc.cell? ⟨qb, 0, none⟩ = some (.int .i64 at_) := hZ.hq.cell 0
    have q8f0 := hZ.hq.frozen 0
    have q8l := hZ.hq.lt
    have hch1 := chain_change_bn cb pb mb qb Fq _ ((a0 : Int)) at_ wc hZ.pool (hZ.hb.cell 1) (hZ.hq.cell 0)
    have HZ := Hidden.mk hZ
    clear hZ
    go_wp2_with fail
    refine hch1.mono ?_; clear hch1; rintro e w3 ⟨rfl, p3, m3⟩
    have hX3 := HZ.out.hx.mod m3 HZ.out.nx
    have hB3 := HZ.out.hb.mod m3 HZ.out.nb
    have hQ3 := HZ.out.hq.mod m3 HZ.out.nq
    have x90 : w3.cell? ⟨w.heap.size, 0, none⟩ = some (.int .u64 k) := hX3.cell 0
    have x9f0 := hX3.frozen 0
    have x91 : w3.cell? ⟨w.heap.size, 1, none⟩ = some (.int .i64 ((a0 : Int))) := hX3.cell 1
    have x9f1 := hX3.frozen 1
    have x92 : w3.cell? ⟨w.heap.size, 2, none⟩ = some (.int .i64 ((b0 : Int))) := hX3.cell 2
    have x9f2 := hX3.frozen 2
    have x9l := hX3.lt
    have c90 : w3.cell? ⟨cb, 0, none⟩ = some (.pointer (some ⟨mb, 0, none⟩)) := hB3.cell 0
    have c9f0 := hB3.frozen 0
    have c91 : w3.cell? ⟨cb, 1, none⟩ = some (.pointer (some ⟨pb, 0, none⟩)) := hB3.cell 1
    have c9f1 := hB3.frozen 1
    have c92 : w3.cell? ⟨cb, 2, none⟩ = some (.int .i64 (f0)) := hB3.cell 2
    have c9f2 := hB3.frozen 2
    have c93 : w3.cell? ⟨cb, 3, none⟩ = some (.int .i64 (l0)) := hB3.cell 3
    have c9f3 := hB3.frozen 3
    have c9l := hB3.lt
    have q90 : w3.cell? ⟨qb, 0, none⟩ = some (.int .i64 at_) := hQ3.cell 0
    have q9f0 := hQ3.frozen 0
    have q9l := hQ3.lt
    have hch2 := chain_change_bp cb pb mb qb Fq _ ((b0 : Int)) at_ w3 p3 (hB3.cell 1) (hQ3.cell 0)
    have H3 := Hidden.mk (And.intro hX3 (And.intro hB3 (And.intro hQ3 m3)))
    clear hX3 hB3 hQ3 m3 p3
    go_wp2_with fail
    refine hch2.mono ?_; clear hch2; rintro e w4 ⟨rfl, p4, m4⟩
    have hX4 := H3.out.1.mod m4 HZ.out.nx
    have hB4 := H3.out.2.1.mod m4 HZ.out.nb
    have hQ4 := H3.out.2.2.1.mod m4 HZ.out.nq
    have x100 : w4.cell? ⟨w.heap.size, 0, none⟩ = some (.int .u64 k) := hX4.cell 0
    have x10f0 := hX4.frozen 0
    have x101 : w4.cell? ⟨w.heap.size, 1, none⟩ = some (.int .i64 ((a0 : Int))) := hX4.cell 1
    have x10f1 := hX4.frozen 1
    have x102 : w4.cell? ⟨w.heap.size, 2, none⟩ = some (.int .i64 ((b0 : Int))) := hX4.cell 2
    have x10f2 := hX4.frozen 2
    have x10l := hX4.lt
    have c100 : w4.cell? ⟨cb, 0, none⟩ = some (.pointer (some ⟨mb, 0, none⟩)) := hB4.cell 0
    have c10f0 := hB4.frozen 0
    have c101 : w4.cell? ⟨cb, 1, none⟩ = some (.pointer (some ⟨pb, 0, none⟩)) := hB4.cell 1
    have c10f1 := hB4.frozen 1
    have c102 : w4.cell? ⟨cb, 2, none⟩ = some (.int .i64 (f0)) := hB4.cell 2
    have c10f2 := hB4.frozen 2
    have c103 : w4.cell? ⟨cb, 3, none⟩ = some (.int .i64 (l0)) := hB4.cell 3
    have c10f3 := hB4.frozen 3
    have c10l := hB4.lt
    have q100 : w4.cell? ⟨qb, 0, none⟩ = some (.int .i64 at_) := hQ4.cell 0
    have q10f0 := hQ4.frozen 0
    have q10l := hQ4.lt
    have H4 := Hidden.mk (And.intro hB4 (And.intro m4 p4))
    clear hX4 hB4 hQ4 m4 p4
    go_wp2_with fail
    go_ret2
    have hfr := HZ.out.fresh
    have hgeF : ∀ x ∈ Fq, x ∈ cb :: Fp ∨ w.heap.size ≤ x := fun x hx => (hfr x hx).imp (fun h => by simp [h]) id
    have hm4 : Mod (cb :: Fp) w w4 := ((HZ.out.mod.mono (T := cb :: Fp) (fun x hx => .inl (by simp [hx]))).trans H3.out.2.2.2 hgeF).trans H4.out.2.1 hgeF
    refine HF.out Fq _ hfr ?_ ?_ ?_
    · exact H4.out.1
    · exact H4.out.2.2
    · exact hm4
end Go.Proofs.Ytfioekkegihkoaa
