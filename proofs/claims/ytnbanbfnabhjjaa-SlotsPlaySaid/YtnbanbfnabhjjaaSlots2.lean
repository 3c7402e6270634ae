/- Slots: what each call does, as a law sees it. -/
import Derived.Test.YtnbanbfnabhjjaaSlots
namespace Go.Proofs.Ytnbanbfnabhjjaa
open Go.RowKit
set_option linter.unusedVariables false
set_option linter.unusedSimpArgs false

section
variable {O : Nat → Prop} {w0 w w' : World} {sb : Nat} {limit n : Nat} {f : Int → Option Int}
theorem SRel.sval_is {s : PS Int} {l : List (HK × Int)} (h : SRel s l) (k : Int) : (sval s l k).isSome = (lk l (1, k)).isSome := by
  cases hl : lk l (1, k) with
  | none => rw [sval_none hl]
  | some i => obtain ⟨v, hv, he⟩ := h.sval_some hl; rw [he]; simp
theorem slots_new_bad (seed limit : Int) (hl : limit < 0 ∨ 1048576 < limit) (w : World) :
    Calls Try.prog 57 #[.int .u64 seed, .int .i64 limit] w fun e w' => e = .returned (.tuple #[.pointer none, .int .i64 1]) ∧ Mod [] w w' := by
  have hn := fun m W => poolU_new_bad m limit W hl
  clear hl
  go_enter Try.func57, Try.ntmps57
  go_wp2_with fail
  refine (meter_new _).mono ?_
  rintro e w' ⟨rfl, rfl⟩
  go_wp2_with fail
  refine (hn _ _).mono ?_
  rintro e w' ⟨rfl, rfl⟩
  go_wp2_with fail
  go_ret2
  exact ⟨rfl, (Mod.refl _ w).alloc _⟩
set_option maxHeartbeats 1000000 in
theorem slots_new (seed : Int) (limit : Nat) (hl : limit ≤ 1048576) (w : World) :
    Calls Try.prog 57 #[.int .u64 seed, .int .i64 limit] w fun e w' => ∃ sb, e = .returned (.tuple #[.pointer (some ⟨sb, 0, none⟩), .int .i64 0]) ∧ SM (fun k => w.heap.size ≤ k) w w' sb limit (fun _ => none) 0 := by
  have hm0 := Hidden.mk (MeterAt.new w)
  go_enter Try.func57, Try.ntmps57
  go_wp2_with fail
  refine (meter_new _).mono ?_
  rintro e w1 ⟨rfl, hw1⟩
  have hm1 : Hidden (MeterAt w1 w.heap.size Mt.zero ∧ Mod [] w w1 ∧ w1.heap.size = w.heap.size + 1) := ⟨by rw [← hw1]; exact ⟨hm0.out, (Mod.refl _ w).alloc _, by simp⟩⟩
  clear hw1 hm0
  go_wp2_with fail
  refine (poolU_new _ limit _ hl).mono ?_
  rintro e w2 ⟨rfl, hp, hmp⟩
  have hp := Hidden.mk hp
  have hmp := Hidden.mk hmp
  go_wp2_with fail
  refine (hash_new _ _ _).mono ?_
  rintro e w3 ⟨tb, F, rfl, ht, hmt, hF⟩
  have ht := Hidden.mk ht
  have hmt := Hidden.mk hmt
  have hF := Hidden.mk hF
  go_wp2_with fail
  go_ret2
  obtain ⟨m1, mm1, z1⟩ := hm1.out
  have hp := hp.out; have hmp := hmp.out; have ht := ht.out; have hmt := hmt.out; have hF := hF.out
  have s2 := hmp.size
  have s3 := hmt.size
  have hpl : w1.heap.size < w2.heap.size := hp.blk.lt
  refine ⟨w3.heap.size, rfl, w.heap.size, w1.heap.size, tb, PS.empty limit, [], ⟨[w1.heap.size], F, ?_, Nat.le_refl _, ?_, ?_, ?_⟩, SRel.empty _, rfl, rfl, fun k => rfl⟩
  · have hf : ∀ o, Mod [] w3 (w3.alloc o) := fun o => (Mod.refl _ w3).alloc o
    refine ⟨Blk.new w3 _ _, ?_, ⟨_, _, ht.mod (hf _) (by simp)⟩, ⟨_, ((m1.mod hmp (by simp)).mod hmt (by simp)).mod (hf _) (by simp)⟩, ?_, ?_, ?_, ?_, ?_, ?_⟩
    · have hpa : PoolAt TU w2 w1.heap.size w.heap.size [w1.heap.size] (PS.empty limit) := ⟨_, _, by simp [rb, Value.ownBlock], hp⟩
      exact (hpa.mod hmt (by simp)).mod (hf _) (by simp)
    · simp; omega
    · intro hk; have := hF _ hk; omega
    · intro k hk hk'; have := hF _ hk'; simp at hk; omega
    · simp; omega
    · intro hk; have := ht.lt _ hk; omega
    · omega
  · intro k hk; simp at hk; omega
  · intro k hk; have := hF _ hk; omega
  · exact ⟨⟨[], by simp, ((mm1.trans hmp (by simp)).trans hmt (by simp)).alloc _⟩, fun k hk => hk⟩
theorem slots_put_nil (k v : Int) (w : World) : Calls Try.prog 58 #[.pointer none, .int .u64 k, .int .u64 v] w fun e w' => e = .returned (.tuple #[.bool false, .int .i64 3]) ∧ w = w' := by
  go_enter Try.func58, Try.ntmps58
  go_wp2
  go_ret2
  exact ⟨rfl, rfl⟩
theorem slots_get_nil (k : Int) (w : World) : Calls Try.prog 62 #[.pointer none, .int .u64 k] w fun e w' => e = .returned (.tuple #[.int .u64 0, .bool false]) ∧ w = w' := by
  go_enter Try.func62, Try.ntmps62
  go_wp2
  go_ret2
  exact ⟨rfl, rfl⟩
theorem slots_drop_nil (k : Int) (w : World) : Calls Try.prog 61 #[.pointer none, .int .u64 k] w fun e w' => e = .returned (.bool false) ∧ w = w' := by
  go_enter Try.func61, Try.ntmps61
  go_wp2
  go_ret
  exact ⟨rfl, rfl⟩
theorem slots_len_nil (w : World) : Calls Try.prog 60 #[.pointer none] w fun e w' => e = .returned (.int .i64 0) ∧ w = w' := by
  go_enter Try.func60, Try.ntmps60
  go_wp2
  go_ret
  exact ⟨rfl, rfl⟩
theorem slots_room_nil (i : Int) (w : World) : Calls Try.prog 59 #[.pointer none, .int .i64 i] w fun e w' => e = .returned (.bool false) ∧ Mod [] w w' := by
  go_enter Try.func59, Try.ntmps59
  go_wp2_with fail
  go_ret
  exact ⟨rfl, by first | exact Mod.refl _ w | exact (Mod.refl _ w).drew⟩
theorem slots_clear_nil (w : World) : Calls Try.prog 65 #[.pointer none] w fun e w' => e = .returned (.tuple #[]) ∧ w = w' := by
  go_enter Try.func65, Try.ntmps65
  go_wp2
  go_end0
  exact ⟨rfl, rfl⟩
theorem slots_len (h : SM O w0 w sb limit f n) : Calls Try.prog 60 #[.pointer (some ⟨sb, 0, none⟩)] w fun e w' => e = .returned (.int .i64 n) ∧ w = w' := by
  obtain ⟨mb, pb, tb, s, l, hB, hr, rfl, rfl, hf⟩ := h
  have c1 : w.cell? ⟨sb, 1, none⟩ = some (.pointer (some ⟨pb, 0, none⟩)) := hB.blk.cell 1
  have hlen := sb_len hB
  clear hB hr hf
  go_enter Try.func60, Try.ntmps60
  go_wp2_with fail
  refine hlen.mono ?_
  rintro e w' ⟨rfl, rfl⟩
  go_wp2_with fail
  go_ret
  exact ⟨rfl, rfl⟩
theorem slots_room (i : Int) (h : SM O w0 w sb limit f n) : Calls Try.prog 59 #[.pointer (some ⟨sb, 0, none⟩), .int .i64 i] w fun e w' => e = .returned (.bool (decide (i ≤ (limit : Int) - n))) ∧ SM O w0 w' sb limit f n := by
  obtain ⟨mb, pb, tb, s, l, hB, hr, rfl, rfl, hf⟩ := h
  have c1 : w.cell? ⟨sb, 1, none⟩ = some (.pointer (some ⟨pb, 0, none⟩)) := hB.blk.cell 1
  have hroom : ∀ W, Mod [] w W → _ := fun W hW => sb_room i (hB.mod0 hW)
  have H := Hidden.mk (And.intro hr hf)
  clear hB hr hf
  go_enter Try.func59, Try.ntmps59
  go_wp2_with fail
  refine (hroom _ (by first | exact Mod.refl _ w | exact (Mod.refl _ w).drew)).mono ?_
  rintro e w' ⟨rfl, hS⟩
  have hS := Hidden.mk hS
  go_wp2_with fail
  go_ret
  exact ⟨rfl, mb, pb, tb, s, l, hS.out, H.out.1, rfl, rfl, H.out.2⟩
theorem slots_clear (h : SM O w0 w sb limit f n) : Calls Try.prog 65 #[.pointer (some ⟨sb, 0, none⟩)] w fun e w' => e = .returned (.tuple #[]) ∧ SM O w0 w' sb limit (fun _ => none) 0 := by
  obtain ⟨mb, pb, tb, s, l, hB, hr, rfl, rfl, hf⟩ := h
  have c1 : w.cell? ⟨sb, 1, none⟩ = some (.pointer (some ⟨pb, 0, none⟩)) := hB.blk.cell 1
  have hc := sb_pclear hB
  clear hB hr hf
  go_enter Try.func65, Try.ntmps65
  go_wp2_with fail
  refine hc.mono ?_
  rintro e w1 ⟨rfl, hS⟩
  have c2 : w1.cell? ⟨sb, 2, none⟩ = some (.pointer (some ⟨tb, 0, none⟩)) := hS.blk.cell 2
  have hc2 := sb_hclear hS
  clear hS
  go_wp2_with fail
  refine hc2.mono ?_
  rintro e w2 ⟨rfl, hS⟩
  have hS := Hidden.mk hS
  go_wp2_with fail
  go_end0
  exact ⟨rfl, mb, pb, tb, _, [], hS.out, SRel.empty _, rfl, rfl, fun k => rfl⟩
set_option maxHeartbeats 1000000 in
theorem slots_get (k : Int) (hk : U64 k) (h : SM O w0 w sb limit f n) : Calls Try.prog 62 #[.pointer (some ⟨sb, 0, none⟩), .int .u64 k] w fun e w' => e = .returned (.tuple #[.int .u64 ((f k).getD 0), .bool (f k).isSome]) ∧ SM O w0 w' sb limit f n := by
  obtain ⟨mb, pb, tb, s, l, hB, hr, rfl, rfl, hf⟩ := h
  have hat := slots_at k hk hB hr
  rw [← hf k]
  cases hl : lk l (1, k) with
  | none =>
    rw [sval_none hl]
    rw [hl] at hat
    simp only [Option.getD_none, Option.isSome_none] at hat ⊢
    have H := Hidden.mk (And.intro hr hf)
    clear hB hr hf hl
    go_enter Try.func62, Try.ntmps62
    go_wp2_with fail
    refine hat.mono ?_
    rintro e w' ⟨rfl, hS⟩
    have hS := Hidden.mk hS
    go_wp2_with fail
    go_ret2
    exact ⟨rfl, mb, pb, tb, s, l, hS.out, H.out.1, rfl, rfl, H.out.2⟩
  | some i =>
    obtain ⟨v, hv, he⟩ := hr.sval_some hl
    rw [he]
    rw [hl] at hat
    simp only [Option.getD_some, Option.isSome_some] at hat ⊢
    have H := Hidden.mk (And.intro hr hf)
    clear hB hr hf hl he
    go_enter Try.func62, Try.ntmps62
    go_wp2_with fail
    refine hat.mono ?_
    rintro e w1 ⟨rfl, hS⟩
    have c1 : w1.cell? ⟨sb, 1, none⟩ = some (.pointer (some ⟨pb, 0, none⟩)) := hS.blk.cell 1
    have hat2 := sb_at i hS
    rw [hv] at hat2
    simp only [Option.getD_some, Option.isSome_some] at hat2
    clear hS hv
    go_wp2_with fail
    refine hat2.mono ?_
    rintro e w2 ⟨rfl, hS⟩
    have hS := Hidden.mk hS
    go_wp2_with fail
    go_ret2
    exact ⟨rfl, mb, pb, tb, s, l, hS.out, H.out.1, rfl, rfl, H.out.2⟩
set_option maxHeartbeats 1000000 in
theorem slots_drop (k : Int) (hk : U64 k) (h : SM O w0 w sb limit f n) : Calls Try.prog 61 #[.pointer (some ⟨sb, 0, none⟩), .int .u64 k] w fun e w' => e = .returned (.bool (f k).isSome) ∧ SM O w0 w' sb limit (fdrop f k) (if (f k).isSome then n - 1 else n) := by
  obtain ⟨mb, pb, tb, s, l, hB, hr, rfl, rfl, hf⟩ := h
  have hkey : KeyOK (1, k) := ⟨by simp, by simp, hk⟩
  have hat := slots_at k hk hB hr
  have hfk := hf k
  cases hl : lk l (1, k) with
  | none =>
    rw [sval_none hl] at hfk
    rw [← hfk]
    rw [hl] at hat
    simp only [Option.getD_none, Option.isSome_none] at hat ⊢
    have H : Hidden (SRel s l ∧ ∀ x, sval s l x = fdrop f k x) := ⟨hr, fun x => by unfold fdrop; split <;> first | exact hf x | (rename_i hx; rw [hx, hf, ← hfk])⟩
    clear hB hr hf hl hfk
    go_enter Try.func61, Try.ntmps61
    go_wp2_with fail
    refine hat.mono ?_
    rintro e w' ⟨rfl, hS⟩
    have hS := Hidden.mk hS
    go_wp2_with fail
    go_ret
    exact ⟨rfl, mb, pb, tb, s, l, hS.out, H.out.1, rfl, by simp, H.out.2⟩
  | some i =>
    obtain ⟨v, hv, he⟩ := hr.sval_some hl
    obtain ⟨r1, r2, r3⟩ := hr.drop hl
    obtain ⟨_, hi0⟩ := PS.get_lt hv
    obtain ⟨i, rfl⟩ : ∃ q : Nat, i = q := ⟨i.toNat, by omega⟩
    simp only [Int.toNat_natCast] at r1 r2 r3
    rw [he] at hfk
    rw [← hfk]
    rw [hl] at hat
    simp only [Option.getD_some, Option.isSome_some] at hat ⊢
    have H : Hidden (SRel (s.drop i) (dropL l (1, k)) ∧ (s.drop i).live = s.live - 1 ∧ (s.drop i).limit = s.limit ∧ ∀ x, sval (s.drop i) (dropL l (1, k)) x = fdrop f k x) := ⟨r1, by omega, rfl, fun x => by rw [r2]; unfold fdrop; split <;> first | rfl | exact hf x⟩
    have HV := Hidden.mk hv
    clear hB hr hf hl he hfk r1 r2 r3 hv
    go_enter Try.func61, Try.ntmps61
    go_wp2_with fail
    refine hat.mono ?_
    rintro e w1 ⟨rfl, hS⟩
    have c1 : w1.cell? ⟨sb, 1, none⟩ = some (.pointer (some ⟨pb, 0, none⟩)) := hS.blk.cell 1
    have hfr := sb_free i hS HV.out
    clear hS
    go_wp2_with fail
    refine hfr.mono ?_
    rintro e w2 ⟨rfl, hS⟩
    have c2 : w2.cell? ⟨sb, 2, none⟩ = some (.pointer (some ⟨tb, 0, none⟩)) := hS.blk.cell 2
    have hlt := hS.blk.lt
    have hdr : ∀ W, Mod [] w2 W → Calls Try.prog 39 #[.pointer (some ⟨tb, 0, none⟩), .agg #[.int .u8 1, .int .u64 k]] W fun e w' => ∃ b, e = .returned (.bool b) ∧ SB O w0 w' sb mb pb tb (s.drop i) (dropL l (1, k)) := fun W hW => by
      refine (sb_hdrop (1, k) hkey (hS.mod0 hW)).mono ?_
      rintro e w' ⟨rfl, h⟩; exact ⟨_, rfl, h⟩
    clear hS
    go_wp2_with fail
    go_region_with (first | (go_at_call 104; refine (slots_key _ _).mono ?_; rintro e w' ⟨rfl, rfl⟩) | (go_at_call 39; refine (hdr _ (by first | exact ((Mod.refl _ w2).drew).alloc _ | exact ((Mod.refl _ w2).alloc _).drew)).mono ?_; rintro e w3 ⟨b, rfl, hS⟩))
    all_goals
      have HS := Hidden.mk hS
      clear hS
      go_wp2_with fail
      go_ret
      exact ⟨rfl, mb, pb, tb, _, _, HS.out, H.out.1, H.out.2.2.1, by simpa using H.out.2.1, H.out.2.2.2⟩
set_option maxHeartbeats 1000000 in
theorem slots_put_old (k v u : Int) (hk : U64 k) (h : SM O w0 w sb limit f n) (hu : f k = some u) : Calls Try.prog 58 #[.pointer (some ⟨sb, 0, none⟩), .int .u64 k, .int .u64 v] w fun e w' => e = .returned (.tuple #[.bool false, .int .i64 0]) ∧ SM O w0 w' sb limit (fput f k v) n := by
  obtain ⟨mb, pb, tb, s, l, hB, hr, rfl, rfl, hf⟩ := h
  have hat := slots_at k hk hB hr
  have hfk := hf k
  cases hl : lk l (1, k) with
  | none => rw [sval_none hl, hu] at hfk; cases hfk
  | some i =>
    obtain ⟨y, hv, he⟩ := hr.sval_some hl
    obtain ⟨r1, r2⟩ := hr.put hl v
    obtain ⟨_, hi0⟩ := PS.get_lt hv
    obtain ⟨i, rfl⟩ : ∃ q : Nat, i = q := ⟨i.toNat, by omega⟩
    simp only [Int.toNat_natCast] at r1 r2
    have hs := (PS.get_some hv).2
    simp only [Int.toNat_natCast] at hs
    rw [hl] at hat
    simp only [Option.getD_some, Option.isSome_some] at hat ⊢
    have H : Hidden (SRel (s.put i v) l ∧ (s.put i v).live = s.live ∧ (s.put i v).limit = s.limit ∧ ∀ x, sval (s.put i v) l x = fput f k v x) := ⟨r1, PS.put_live hs, rfl, fun x => by rw [r2]; unfold fput; split <;> first | rfl | exact hf x⟩
    have HV := Hidden.mk hv
    clear hB hr hf hl he hfk r1 r2 hv hs hu
    go_enter Try.func58, Try.ntmps58
    go_wp2_with fail
    refine hat.mono ?_
    rintro e w1 ⟨rfl, hS⟩
    have c1 : w1.cell? ⟨sb, 1, none⟩ = some (.pointer (some ⟨pb, 0, none⟩)) := hS.blk.cell 1
    have hfr := sb_pput i v hS HV.out
    clear hS
    go_wp2_with fail
    refine hfr.mono ?_
    rintro e w2 ⟨rfl, hS⟩
    have HS := Hidden.mk hS
    clear hS
    go_wp2_with fail
    go_ret2
    exact ⟨rfl, mb, pb, tb, _, _, HS.out, H.out.1, H.out.2.2.1, H.out.2.1, H.out.2.2.2⟩
set_option maxHeartbeats 1000000 in
theorem slots_put_full (k v : Int) (hk : U64 k) (h : SM O w0 w sb limit f n) (hu : f k = none) (hn : limit ≤ n) : Calls Try.prog 58 #[.pointer (some ⟨sb, 0, none⟩), .int .u64 k, .int .u64 v] w fun e w' => e = .returned (.tuple #[.bool false, .int .i64 5]) ∧ SM O w0 w' sb limit f n := by
  obtain ⟨mb, pb, tb, s, l, hB, hr, rfl, rfl, hf⟩ := h
  have hat := slots_at k hk hB hr
  have hfk := hf k
  cases hl : lk l (1, k) with
  | some i => obtain ⟨y, hv, he⟩ := hr.sval_some hl; rw [he, hu] at hfk; cases hfk
  | none =>
    rw [hl] at hat
    simp only [Option.getD_none, Option.isSome_none] at hat ⊢
    have hal : s.alloc v = (s, 0, false) := by unfold PS.alloc; rw [if_neg (by omega)]
    have H := Hidden.mk (And.intro hr hf)
    have HA := Hidden.mk hal
    clear hB hr hf hl hfk hal hu hn
    go_enter Try.func58, Try.ntmps58
    go_wp2_with fail
    refine hat.mono ?_
    rintro e w1 ⟨rfl, hS⟩
    have c1 : w1.cell? ⟨sb, 1, none⟩ = some (.pointer (some ⟨pb, 0, none⟩)) := hS.blk.cell 1
    have hfr := sb_alloc v hS HA.out
    clear hS
    go_wp2_with fail
    refine hfr.mono ?_
    rintro e w2 ⟨rfl, hS⟩
    have HS := Hidden.mk hS
    clear hS
    go_wp2_with fail
    go_ret2
    exact ⟨rfl, mb, pb, tb, _, _, HS.out, H.out.1, rfl, rfl, H.out.2⟩
set_option maxHeartbeats 1000000 in
theorem slots_put_new (k v : Int) (hk : U64 k) (h : SM O w0 w sb limit f n) (hu : f k = none) (hn : n < limit) : Calls Try.prog 58 #[.pointer (some ⟨sb, 0, none⟩), .int .u64 k, .int .u64 v] w fun e w' => e = .returned (.tuple #[.bool true, .int .i64 0]) ∧ SM O w0 w' sb limit (fput f k v) (n + 1) := by
  obtain ⟨mb, pb, tb, s, l, hB, hr, rfl, rfl, hf⟩ := h
  have hkey : KeyOK (1, k) := ⟨by simp, by simp, hk⟩
  have hat := slots_at k hk hB hr
  have hfk := hf k
  cases hl : lk l (1, k) with
  | some i => obtain ⟨y, hv, he⟩ := hr.sval_some hl; rw [he, hu] at hfk; cases hfk
  | none =>
    obtain ⟨r1, r2⟩ := hr.new hB.wf hl v
    have hln : l.length ≤ 1073741824 := by have := hr.count; have := hB.wf.lim; omega
    have hnx : (s.nextAt : Int) ≤ 1048576 := by
      have h1 : s.wf := hB.wf
      have h2 := h1.lim; have h3 := h1.len
      unfold PS.nextAt
      cases hg : s.free.getLast? with
      | none => simp; omega
      | some i =>
        have := (List.getElem?_eq_some_iff.1 ((h1.mem i).1 (PS.last_mem hg))).1
        simp; omega
    rw [hl] at hat
    simp only [Option.getD_none, Option.isSome_none] at hat ⊢
    have hal : s.alloc v = (s.take v, s.nextAt, true) := by unfold PS.alloc; rw [if_pos hn]
    have H : Hidden (SRel (s.take v) (putL l (1, k) s.nextAt) ∧ (s.take v).live = s.live + 1 ∧ (s.take v).limit = s.limit ∧ ∀ x, sval (s.take v) (putL l (1, k) s.nextAt) x = fput f k v x) :=
      ⟨r1, PS.take_live hB.wf _, by unfold PS.take; split <;> rfl, fun x => by rw [r2]; unfold fput; split <;> first | rfl | exact hf x⟩
    have HA := Hidden.mk hal
    have HL := Hidden.mk hln
    have hnx0 : (0 : Int) ≤ (s.nextAt : Int) := by omega
    generalize hq : s.nextAt = q at *
    clear hB hr hf hl hfk hal hu hn r1 r2 hln
    have hwrap : IntKind.u64.wrap (q : Int) = (q : Int) := by rw [IntKind.wrap_u64]; omega
    clear hq
    go_enter Try.func58, Try.ntmps58
    go_wp2_with fail
    refine hat.mono ?_
    rintro e w1 ⟨rfl, hS⟩
    have c1 : w1.cell? ⟨sb, 1, none⟩ = some (.pointer (some ⟨pb, 0, none⟩)) := hS.blk.cell 1
    have hfr := sb_alloc v hS HA.out
    clear hS
    go_wp2_with fail
    refine hfr.mono ?_
    rintro e w2 ⟨rfl, hS⟩
    have c2 : w2.cell? ⟨sb, 2, none⟩ = some (.pointer (some ⟨tb, 0, none⟩)) := hS.blk.cell 2
    have hlt := hS.blk.lt
    have hdr : ∀ W, Mod [] w2 W → Calls Try.prog 38 #[.pointer (some ⟨tb, 0, none⟩), .agg #[.int .u8 1, .int .u64 k], .int .u64 q] W fun e w' => ∃ b, e = .returned (.bool b) ∧ SB O w0 w' sb mb pb tb (s.take v) (putL l (1, k) q) := fun W hW => by
      refine (sb_hput (1, k) q hkey (hS.mod0 hW) HL.out).mono ?_
      rintro e w' ⟨rfl, h⟩; exact ⟨_, rfl, h⟩
    clear hS
    go_wp2_with fail
    go_region_with (first | (go_at_call 104; refine (slots_key _ _).mono ?_; rintro e w' ⟨rfl, rfl⟩) | (go_at_call 38; refine (hdr _ (by first | exact ((Mod.refl _ w2).drew).alloc _ | exact ((Mod.refl _ w2).alloc _).drew)).mono ?_; rintro e w3 ⟨b, rfl, hS⟩))
    all_goals
      have HS := Hidden.mk hS
      clear hS
      go_wp2_with fail
      go_ret2
      exact ⟨rfl, mb, pb, tb, _, _, HS.out, H.out.1, H.out.2.2.1, H.out.2.1, H.out.2.2.2⟩
end
end Go.Proofs.Ytnbanbfnabhjjaa
