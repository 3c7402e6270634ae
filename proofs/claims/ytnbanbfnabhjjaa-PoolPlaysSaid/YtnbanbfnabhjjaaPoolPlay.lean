/- The pool beside the document's: an act on both. -/
import Derived.Test.YtnbanbfnabhjjaaRef04d
import Derived.Test.YtnbanbfnabhjjaaPoolA
namespace Go.Proofs.Ytnbanbfnabhjjaa
open Go.RowKit
set_option linter.unusedVariables false
set_option linter.unusedSimpArgs false
section
variable {w : World} {xb : Nat} {F : List Nat} {V : List Int} {s s' : PS Int} {reads : Int} {i : Nat} {ok : Bool}
theorem rf_do0 (dd I v : Int) (h : RefAt w xb F V s reads) (hdd : 0 ≤ dd ∧ dd ≤ 255) (hc : dd % 6 = 0) (hs : s.alloc v = (s', i, ok)) :
    Calls Try.prog 80 #[.pointer (some ⟨xb, 0, none⟩), .agg #[.int .u8 dd, .int .i64 I, .int .u64 v]] w (DoPost w xb F i 0 ok s' reads) := by
  obtain ⟨vv, lv, fv, rfl, h1⟩ := h
  unfold PS.alloc at hs
  split at hs
  · rename_i hl
    injection hs with e1 hs; injection hs with e2 e3; subst e1 e2 e3
    unfold PS.nextAt
    cases hg : s.free.getLast? with
    | none =>
      have hnil : s.free = [] := by simpa using hg
      exact do0_new dd I v h1 hdd hc hl hnil
    | some i => exact do0_re dd I v h1 hdd hc hl hg
  · rename_i hl
    injection hs with e1 hs; injection hs with e2 e3; subst e1 e2 e3
    exact do0_full dd I v h1 hdd hc (by omega)
theorem rf_do1 (dd I v : Int) (h : RefAt w xb F V s reads) (hdd : 0 ≤ dd ∧ dd ≤ 255) (hc : dd % 6 = 1) :
    Calls Try.prog 80 #[.pointer (some ⟨xb, 0, none⟩), .agg #[.int .u8 dd, .int .i64 I, .int .u64 v]] w (DoPost w xb F 0 0 (s.get I).isSome (s.give I).1 reads) := by
  obtain ⟨vv, lv, fv, rfl, h1⟩ := h
  unfold PS.give
  cases hg : s.get I with
  | none => exact do1_no dd I v h1 hdd hc hg
  | some u => exact do1_yes dd I v h1 hdd hc hg
theorem rf_do2 (dd I v : Int) (h : RefAt w xb F V s reads) (hdd : 0 ≤ dd ∧ dd ≤ 255) (hc : dd % 6 = 2) :
    Calls Try.prog 80 #[.pointer (some ⟨xb, 0, none⟩), .agg #[.int .u8 dd, .int .i64 I, .int .u64 v]] w (DoPost w xb F 0 ((s.get I).getD 0) (s.get I).isSome s (if (s.get I).isSome then wrap64 (reads + 1) else reads)) := by
  obtain ⟨vv, lv, fv, rfl, h1⟩ := h
  cases hg : s.get I with
  | none => exact do2_no dd I v h1 hdd hc hg
  | some u => exact do2_yes dd I v h1 hdd hc hg
theorem rf_do3 (dd I v : Int) (h : RefAt w xb F V s reads) (hdd : 0 ≤ dd ∧ dd ≤ 255) (hc : dd % 6 = 3) :
    Calls Try.prog 80 #[.pointer (some ⟨xb, 0, none⟩), .agg #[.int .u8 dd, .int .i64 I, .int .u64 v]] w (DoPost w xb F 0 0 (s.get I).isSome (s.store I v).1 reads) := by
  obtain ⟨vv, lv, fv, rfl, h1⟩ := h
  unfold PS.store
  cases hg : s.get I with
  | none => exact do3_no dd I v h1 hdd hc hg
  | some u => exact do3_yes dd I v h1 hdd hc hg
theorem rf_do4 (dd I v : Int) (h : RefAt w xb F V s reads) (hdd : 0 ≤ dd ∧ dd ≤ 255) (hc : dd % 6 = 4) :
    Calls Try.prog 80 #[.pointer (some ⟨xb, 0, none⟩), .agg #[.int .u8 dd, .int .i64 I, .int .u64 v]] w (DoPost w xb F 0 0 (s.get I).isSome s reads) := by
  obtain ⟨vv, lv, fv, rfl, h1⟩ := h
  cases hg : s.get I with
  | none => exact do4_no dd I v h1 hdd hc hg
  | some u => exact do4_yes dd I v h1 hdd hc hg
theorem rf_do5 (dd I v : Int) (h : RefAt w xb F V s reads) (hdd : 0 ≤ dd ∧ dd ≤ 255) (hc : dd % 6 = 5) :
    Calls Try.prog 80 #[.pointer (some ⟨xb, 0, none⟩), .agg #[.int .u8 dd, .int .i64 I, .int .u64 v]] w (DoPost w xb F 0 0 true (PS.empty s.limit) reads) := by
  obtain ⟨vv, lv, fv, rfl, h1⟩ := h
  exact do5_any dd I v h1 hdd hc
variable {pb mb : Nat} {m : Mt}
theorem pa_free_any (i : Int) (h : PoolAt TU w pb mb F s) :
    Calls Try.prog 22 #[.pointer (some ⟨pb, 0, none⟩), .int .i64 i] w fun e w' => e = .returned (.bool (s.get i).isSome) ∧ ∃ F', PoolAt TU w' pb mb F' (s.give i).1 ∧ Mod F w w' ∧ Fresh w F F' := by
  obtain ⟨cv, fv, rfl, h1⟩ := h
  unfold PS.give
  cases hg : s.get i with
  | none =>
    refine (poolU_free_no pb mb cv fv s i w h1 hg).mono ?_
    rintro e w' ⟨rfl, rfl⟩
    exact ⟨rfl, _, ⟨cv, fv, rfl, h1⟩, Mod.refl _ _, Fresh.refl _ _⟩
  | some u =>
    obtain ⟨hi, _⟩ := PS.get_some hg
    obtain ⟨j, rfl⟩ : ∃ j : Nat, i = j := ⟨i.toNat, by omega⟩
    refine (poolU_free_yes pb mb cv fv s j u w h1 hg).mono ?_
    rintro e w' ⟨rfl, cv', fv', k1, k2, k3⟩
    exact ⟨rfl, _, ⟨cv', fv', rfl, by simpa using k1⟩, k2, pool_fresh k3⟩
theorem pa_put_any (i v : Int) (h : PoolAt TU w pb mb F s) :
    Calls Try.prog 27 #[.pointer (some ⟨pb, 0, none⟩), .int .i64 i, .int .u64 v] w fun e w' => e = .returned (.bool (s.get i).isSome) ∧ PoolAt TU w' pb mb F (s.store i v).1 ∧ Mod F w w' := by
  obtain ⟨cv, fv, rfl, h1⟩ := h
  unfold PS.store
  cases hg : s.get i with
  | none =>
    refine (poolU_put_no pb mb cv fv s i v w h1 hg).mono ?_
    rintro e w' ⟨rfl, rfl⟩
    exact ⟨rfl, ⟨cv, fv, rfl, h1⟩, Mod.refl _ _⟩
  | some u =>
    refine (poolU_put_yes pb mb cv fv s i v u w h1 hg).mono ?_
    rintro e w' ⟨rfl, k1, k2⟩
    exact ⟨rfl, ⟨cv, fv, rfl, by simpa using k1⟩, k2⟩
theorem pa_peek (i : Int) (h : PoolAt TU w pb mb F s) :
    Calls Try.prog 24 #[.pointer (some ⟨pb, 0, none⟩), .int .i64 i] w fun e w' => e = .returned (.tuple #[.int .u64 ((s.get i).getD 0), .bool (s.get i).isSome]) ∧ w = w' := by
  obtain ⟨cv, fv, rfl, h1⟩ := h; exact poolU_peek pb mb cv fv s i w h1
theorem pa_live (i : Int) (h : PoolAt TU w pb mb F s) :
    Calls Try.prog 28 #[.pointer (some ⟨pb, 0, none⟩), .int .i64 i] w fun e w' => e = .returned (.bool (s.get i).isSome) ∧ w = w' := by
  obtain ⟨cv, fv, rfl, h1⟩ := h; exact poolU_live pb mb cv fv s i w h1
end
/-- The pool and the document's, apart: s is the one's state, s' the other's. -/
structure Two (w : World) (pb mb xb : Nat) (F Fx : List Nat) (s s' : PS Int) (m : Mt) (V : List Int) (reads : Int) : Prop where
  pool : PoolAt TU w pb mb F s
  met : MeterAt w mb m
  ref : RefAt w xb Fx V s' reads
  d1 : mb ∉ F
  d2 : mb ∉ Fx
  d3 : ∀ k ∈ F, k ∉ Fx
theorem Two.mod0 {w w' : World} {pb mb xb : Nat} {F Fx : List Nat} {s s' : PS Int} {m : Mt} {V : List Int} {reads : Int} (h : Two w pb mb xb F Fx s s' m V reads) (hm : Mod [] w w') : Two w' pb mb xb F Fx s s' m V reads :=
  ⟨h.pool.mod hm (by simp), h.met.mod hm (by simp), h.ref.mod hm (by simp), h.d1, h.d2, h.d3⟩
/-- Both of the call's own, with a block q beside that holds the act. -/
structure TwoM (w0 w : World) (pb mb xb : Nat) (s s' : PS Int) (m : Mt) (reads : Int) (q : Nat) (cs : Array Value) : Prop where
  ex : ∃ F Fx V, Two w pb mb xb F Fx s s' m V reads ∧ w0.heap.size ≤ mb ∧ (∀ k ∈ F, w0.heap.size ≤ k) ∧ (∀ k ∈ Fx, w0.heap.size ≤ k) ∧ q ≠ mb ∧ q ∉ F ∧ q ∉ Fx
  below : Below w0.heap.size w0 w
  act : Blk w q 51 cs
section
variable {w0 w w' : World} {pb mb xb q : Nat} {cs : Array Value} {s s' t : PS Int} {m m' : Mt} {reads reads' n v : Int} {ok : Bool}
theorem TwoM.mod0 (h : TwoM w0 w pb mb xb s s' m reads q cs) (hm : Mod [] w w') : TwoM w0 w' pb mb xb s s' m reads q cs := by
  obtain ⟨F, Fx, V, h1, h2, h3, h4, h5⟩ := h.ex
  exact ⟨⟨F, Fx, V, h1.mod0 hm, h2, h3, h4, h5⟩, h.below.trans (hm.below h.below.size (by simp)), h.act.mod hm (by simp)⟩
/-- Behind a call of the document's. -/
theorem TwoM.doc (h : TwoM w0 w pb mb xb s s' m reads q cs) {fn : Nat} {args : Array Value} (hc : ∀ Fx V, RefAt w xb Fx V s' reads → Calls Try.prog fn args w (DoPost w xb Fx n v ok t reads')) :
    Calls Try.prog fn args w fun e w' => e = .returned (.tuple #[.int .i64 n, .int .u64 v, .bool ok]) ∧ TwoM w0 w' pb mb xb s t m reads' q cs := by
  obtain ⟨F, Fx, V, h1, h2, h3, h4, h5, h6, h7⟩ := h.ex
  refine (hc Fx V h1.ref).mono ?_
  rintro e w' ⟨rfl, F', V', k1, k2, k3⟩
  have hfr : Fresh w Fx F' := k3
  exact ⟨rfl, ⟨F, F', V', ⟨h1.pool.mod k2 (fun k hk hk' => h1.d3 k hk' hk), h1.met.mod k2 h1.d2, k1, h1.d1, hfr.not_mem h1.met.lt h1.d2, hfr.apart (fun k hk => h1.pool.lt k hk) h1.d3⟩, h2, h3, hfr.ge h.below.size h4, h5, h6, hfr.not_mem h.act.lt h7⟩, h.below.trans (k2.below h.below.size h4), h.act.mod k2 h7⟩
/-- Behind a call of the pool's that turns it. -/
theorem TwoM.pool (h : TwoM w0 w pb mb xb s s' m reads q cs) {fn : Nat} {args : Array Value} {r : Value} (hc : ∀ F, PoolAt TU w pb mb F s → Calls Try.prog fn args w fun e w' => e = .returned r ∧ ∃ F', PoolAt TU w' pb mb F' t ∧ Mod F w w' ∧ Fresh w F F') :
    Calls Try.prog fn args w fun e w' => e = .returned r ∧ TwoM w0 w' pb mb xb t s' m reads q cs := by
  obtain ⟨F, Fx, V, h1, h2, h3, h4, h5, h6, h7⟩ := h.ex
  refine (hc F h1.pool).mono ?_
  rintro e w' ⟨rfl, F', k1, k2, k3⟩
  have hd : ∀ k ∈ Fx, k ∉ F := fun k hk hk' => h1.d3 k hk' hk
  exact ⟨rfl, ⟨F', Fx, V, ⟨k1, h1.met.mod k2 h1.d1, h1.ref.mod k2 h1.d3, k3.not_mem h1.met.lt h1.d1, h1.d2, fun k hk hk' => k3.apart (fun k hk => h1.ref.lt k hk) hd k hk' hk⟩, h2, k3.ge h.below.size h3, h4, h5, k3.not_mem h.act.lt h6, h7⟩, h.below.trans (k2.below h.below.size h3), h.act.mod k2 h6⟩
/-- Behind one that only looks. -/
theorem TwoM.look (h : TwoM w0 w pb mb xb s s' m reads q cs) {fn : Nat} {args : Array Value} {r : Value} (hc : ∀ F, PoolAt TU w pb mb F s → Calls Try.prog fn args w fun e w' => e = .returned r ∧ w = w') :
    Calls Try.prog fn args w fun e w' => e = .returned r ∧ w = w' := by
  obtain ⟨F, Fx, V, h1, _⟩ := h.ex; exact hc F h1.pool
theorem TwoM.at_ (i : Int) (h : TwoM w0 w pb mb xb s s' m reads q cs) :
    Calls Try.prog 23 #[.pointer (some ⟨pb, 0, none⟩), .int .i64 i] w fun e w' => e = .returned (.tuple #[.int .u64 ((s.get i).getD 0), .bool (s.get i).isSome]) ∧ TwoM w0 w' pb mb xb s s' (if (s.get i).isSome then m.read else m) reads q cs := by
  obtain ⟨F, Fx, V, h1, h2, h3, h4, h5, h6, h7⟩ := h.ex
  refine (pa_at i h1.pool h1.met h1.d1).mono ?_
  rintro e w' ⟨rfl, k1, k2, k3⟩
  exact ⟨rfl, ⟨F, Fx, V, ⟨k1, k2, h1.ref.mod k3 (by simpa using h1.d2), h1.d1, h1.d2, h1.d3⟩, h2, h3, h4, h5, h6, h7⟩, h.below.trans (k3.below h.below.size (by simpa using h2)), h.act.mod k3 (by simpa using h5)⟩
end
/-- The pool and the document's, alike. -/
def Alike (w0 w : World) (pb mb xb limit : Nat) (s : PS Int) : Prop := ∃ m F Fx V, Two w pb mb xb F Fx s s m V m.reads ∧ w0.heap.size ≤ mb ∧ (∀ k ∈ F, w0.heap.size ≤ k) ∧ (∀ k ∈ Fx, w0.heap.size ≤ k) ∧ Below w0.heap.size w0 w ∧ m.taken = m.reads ∧ s.limit = limit
theorem Alike.start {w0 w : World} {pb mb xb limit : Nat} {s : PS Int} (h : Alike w0 w pb mb xb limit s) (cs : Array Value) : ∃ m, TwoM w0 (w.alloc (.cells cs 51)) pb mb xb s s m m.reads w.heap.size cs ∧ m.taken = m.reads ∧ s.limit = limit := by
  obtain ⟨m, F, Fx, V, h1, h2, h3, h4, h5, h6, h7⟩ := h
  have hm := (Mod.refl [] w).alloc (.cells cs 51)
  refine ⟨m, ⟨⟨F, Fx, V, h1.mod0 hm, h2, h3, h4, fun e => ?_, fun hk => ?_, fun hk => ?_⟩, h5.trans (hm.below h5.size (by simp)), Blk.new w _ _⟩, h6, h7⟩
  · have := h1.met.lt; omega
  · have := h1.pool.lt _ hk; omega
  · have := h1.ref.lt _ hk; omega
theorem TwoM.alike {w0 w : World} {pb mb xb limit q : Nat} {cs : Array Value} {s : PS Int} {m : Mt} {reads : Int} (h : TwoM w0 w pb mb xb s s m reads q cs) (hr : reads = m.reads) (hmt : m.taken = m.reads) (hl : s.limit = limit) : Alike w0 w pb mb xb limit s := by
  subst hr
  obtain ⟨F, Fx, V, h1, h2, h3, h4, _⟩ := h.ex
  exact ⟨m, F, Fx, V, h1, h2, h3, h4, h.below, hmt, hl⟩

set_option maxRecDepth 100000 in
set_option maxHeartbeats 1000000 in
theorem act_0 {w0 w : World} {pb mb xb limit : Nat} {s : PS Int} (dd I v : Int) (h : Alike w0 w pb mb xb limit s) (hdd : 0 ≤ dd ∧ dd ≤ 255) (hc : dd % 6 = 0) :
    Calls Try.prog 31 #[.pointer (some ⟨pb, 0, none⟩), .pointer (some ⟨xb, 0, none⟩), .agg #[.int .u8 dd, .int .i64 I, .int .u64 v]] w fun e w' => e = .returned (.bool true) ∧ ∃ s', Alike w0 w' pb mb xb limit s' := by
  obtain ⟨m, hT, hmt, hlim⟩ := h.start #[.int .u8 dd, .int .i64 I, .int .u64 v]
  clear h
  have hdoc := hT.doc (fun Fx V hF => rf_do0 (s' := (s.alloc v).1) (i := (s.alloc v).2.1) (ok := (s.alloc v).2.2) dd I v hF hdd hc rfl)
  have hpool := fun W (hT : TwoM w0 W pb mb xb s (s.alloc v).1 m m.reads w.heap.size #[.int .u8 dd, .int .i64 I, .int .u64 v]) => TwoM.pool (t := (s.alloc v).1) hT (fun F hF => pa_alloc v hF (s' := (s.alloc v).1) (i := (s.alloc v).2.1) (ok := (s.alloc v).2.2) rfl)
  have hl : (s.alloc v).1.limit = limit := by unfold PS.alloc PS.take; (repeat' split) <;> exact hlim
  generalize (s.alloc v).1 = t' at *
  generalize (s.alloc v).2.1 = ai at *
  generalize (s.alloc v).2.2 = ok at *
  have HM := Hidden.mk (And.intro hmt hl)
  clear hT hmt hlim hl
  go_enter Try.func31, Try.ntmps31
  go_wp2_with fail
  refine hdoc.mono ?_; clear hdoc; rintro e w1 ⟨rfl, hT⟩
  have b0 : w1.cell? ⟨w.heap.size, 0, none⟩ = some (.int .u8 dd) := hT.act.cell 0
  have b1 : w1.cell? ⟨w.heap.size, 1, none⟩ = some (.int .i64 I) := hT.act.cell 1
  have b2 : w1.cell? ⟨w.heap.size, 2, none⟩ = some (.int .u64 v) := hT.act.cell 2
  have hpool := hpool w1 hT
  clear hT
  go_wp2_with fail
  refine hpool.mono ?_; clear hpool; rintro e w2 ⟨rfl, hT⟩
  have HT := Hidden.mk hT
  clear hT
  go_wp2_with fail
  go_ret
  exact ⟨rfl, _, HT.out.alike rfl HM.out.1 HM.out.2⟩

set_option maxRecDepth 100000 in
set_option maxHeartbeats 1000000 in
theorem act_1 {w0 w : World} {pb mb xb limit : Nat} {s : PS Int} (dd I v : Int) (h : Alike w0 w pb mb xb limit s) (hdd : 0 ≤ dd ∧ dd ≤ 255) (hc : dd % 6 = 1) :
    Calls Try.prog 31 #[.pointer (some ⟨pb, 0, none⟩), .pointer (some ⟨xb, 0, none⟩), .agg #[.int .u8 dd, .int .i64 I, .int .u64 v]] w fun e w' => e = .returned (.bool true) ∧ ∃ s', Alike w0 w' pb mb xb limit s' := by
  obtain ⟨m, hT, hmt, hlim⟩ := h.start #[.int .u8 dd, .int .i64 I, .int .u64 v]
  clear h
  have hdoc := hT.doc (fun Fx V hF => rf_do1 dd I v hF hdd hc)
  have hpool := fun W (hT : TwoM w0 W pb mb xb s (s.give I).1 m m.reads w.heap.size #[.int .u8 dd, .int .i64 I, .int .u64 v]) => TwoM.pool (t := (s.give I).1) hT (fun F hF => pa_free_any I hF)
  have hl : (s.give I).1.limit = limit := by unfold PS.give; split <;> exact hlim
  generalize (s.give I).1 = t' at *
  generalize (s.get I).isSome = ok at *
  have HM := Hidden.mk (And.intro hmt hl)
  clear hT hmt hlim hl
  go_enter Try.func31, Try.ntmps31
  go_wp2_with fail
  refine hdoc.mono ?_; clear hdoc; rintro e w1 ⟨rfl, hT⟩
  have b0 : w1.cell? ⟨w.heap.size, 0, none⟩ = some (.int .u8 dd) := hT.act.cell 0
  have b1 : w1.cell? ⟨w.heap.size, 1, none⟩ = some (.int .i64 I) := hT.act.cell 1
  have b2 : w1.cell? ⟨w.heap.size, 2, none⟩ = some (.int .u64 v) := hT.act.cell 2
  have hpool := hpool w1 hT
  clear hT
  go_wp2_with fail
  refine hpool.mono ?_; clear hpool; rintro e w2 ⟨rfl, hT⟩
  have HT := Hidden.mk hT
  clear hT
  go_wp2_with fail
  go_ret
  exact ⟨rfl, _, HT.out.alike rfl HM.out.1 HM.out.2⟩

set_option maxRecDepth 100000 in
set_option maxHeartbeats 1000000 in
theorem act_3 {w0 w : World} {pb mb xb limit : Nat} {s : PS Int} (dd I v : Int) (h : Alike w0 w pb mb xb limit s) (hdd : 0 ≤ dd ∧ dd ≤ 255) (hc : dd % 6 = 3) :
    Calls Try.prog 31 #[.pointer (some ⟨pb, 0, none⟩), .pointer (some ⟨xb, 0, none⟩), .agg #[.int .u8 dd, .int .i64 I, .int .u64 v]] w fun e w' => e = .returned (.bool true) ∧ ∃ s', Alike w0 w' pb mb xb limit s' := by
  obtain ⟨m, hT, hmt, hlim⟩ := h.start #[.int .u8 dd, .int .i64 I, .int .u64 v]
  clear h
  have hdoc := hT.doc (fun Fx V hF => rf_do3 dd I v hF hdd hc)
  have hpool := fun W (hT : TwoM w0 W pb mb xb s (s.store I v).1 m m.reads w.heap.size #[.int .u8 dd, .int .i64 I, .int .u64 v]) => TwoM.pool (t := (s.store I v).1) hT (fun F hF => by refine (pa_put_any I v hF).mono ?_; rintro e w' ⟨rfl, k1, k2⟩; exact ⟨rfl, F, k1, k2, Fresh.refl _ _⟩)
  have hl : (s.store I v).1.limit = limit := by unfold PS.store; split <;> exact hlim
  generalize (s.store I v).1 = t' at *
  generalize (s.get I).isSome = ok at *
  have HM := Hidden.mk (And.intro hmt hl)
  clear hT hmt hlim hl
  go_enter Try.func31, Try.ntmps31
  go_wp2_with fail
  refine hdoc.mono ?_; clear hdoc; rintro e w1 ⟨rfl, hT⟩
  have b0 : w1.cell? ⟨w.heap.size, 0, none⟩ = some (.int .u8 dd) := hT.act.cell 0
  have b1 : w1.cell? ⟨w.heap.size, 1, none⟩ = some (.int .i64 I) := hT.act.cell 1
  have b2 : w1.cell? ⟨w.heap.size, 2, none⟩ = some (.int .u64 v) := hT.act.cell 2
  have hpool := hpool w1 hT
  clear hT
  go_wp2_with fail
  refine hpool.mono ?_; clear hpool; rintro e w2 ⟨rfl, hT⟩
  have HT := Hidden.mk hT
  clear hT
  go_wp2_with fail
  go_ret
  exact ⟨rfl, _, HT.out.alike rfl HM.out.1 HM.out.2⟩

set_option maxRecDepth 100000 in
set_option maxHeartbeats 1000000 in
theorem act_2 {w0 w : World} {pb mb xb limit : Nat} {s : PS Int} (dd I v : Int) (h : Alike w0 w pb mb xb limit s) (hdd : 0 ≤ dd ∧ dd ≤ 255) (hc : dd % 6 = 2) :
    Calls Try.prog 31 #[.pointer (some ⟨pb, 0, none⟩), .pointer (some ⟨xb, 0, none⟩), .agg #[.int .u8 dd, .int .i64 I, .int .u64 v]] w fun e w' => e = .returned (.bool true) ∧ ∃ s', Alike w0 w' pb mb xb limit s' := by
  obtain ⟨m, hT, hmt, hlim⟩ := h.start #[.int .u8 dd, .int .i64 I, .int .u64 v]
  clear h
  have hdoc := hT.doc (fun Fx V hF => rf_do2 dd I v hF hdd hc)
  have hat := fun W r (hT : TwoM w0 W pb mb xb s s m r w.heap.size #[.int .u8 dd, .int .i64 I, .int .u64 v]) => hT.at_ I
  have hpk := fun W m' r (hT : TwoM w0 W pb mb xb s s m' r w.heap.size #[.int .u8 dd, .int .i64 I, .int .u64 v]) => hT.look (fun F hF => pa_peek I hF)
  generalize (s.get I).isSome = ok at *
  generalize (s.get I).getD 0 = x at *
  have HM := Hidden.mk (And.intro hmt hlim)
  clear hT hmt hlim
  go_enter Try.func31, Try.ntmps31
  go_wp2_with fail
  refine hdoc.mono ?_; clear hdoc; rintro e w1 ⟨rfl, hT⟩
  have b0 : w1.cell? ⟨w.heap.size, 0, none⟩ = some (.int .u8 dd) := hT.act.cell 0
  have b1 : w1.cell? ⟨w.heap.size, 1, none⟩ = some (.int .i64 I) := hT.act.cell 1
  have b2 : w1.cell? ⟨w.heap.size, 2, none⟩ = some (.int .u64 v) := hT.act.cell 2
  have hat := hat w1 _ hT
  clear hT
  go_wp2_with fail
  refine hat.mono ?_; clear hat; rintro e w2 ⟨rfl, hT⟩
  have d1 : w2.cell? ⟨w.heap.size, 1, none⟩ = some (.int .i64 I) := hT.act.cell 1
  have hpk := hpk w2 _ _ hT
  have HT := Hidden.mk hT
  clear hT
  go_wp2_with fail
  refine hpk.mono ?_; clear hpk; rintro e w3 ⟨rfl, rfl⟩
  go_wp2_with fail
  go_ret
  refine ⟨rfl, s, HT.out.alike ?_ ?_ HM.out.2⟩
  · cases ok <;> rfl
  · cases ok
    · exact HM.out.1
    · show wrap64 (m.taken + 1) = wrap64 (m.reads + 1); rw [HM.out.1]

set_option maxRecDepth 100000 in
set_option maxHeartbeats 1000000 in
theorem act_4 {w0 w : World} {pb mb xb limit : Nat} {s : PS Int} (dd I v : Int) (h : Alike w0 w pb mb xb limit s) (hdd : 0 ≤ dd ∧ dd ≤ 255) (hc : dd % 6 = 4) :
    Calls Try.prog 31 #[.pointer (some ⟨pb, 0, none⟩), .pointer (some ⟨xb, 0, none⟩), .agg #[.int .u8 dd, .int .i64 I, .int .u64 v]] w fun e w' => e = .returned (.bool true) ∧ ∃ s', Alike w0 w' pb mb xb limit s' := by
  obtain ⟨m, hT, hmt, hlim⟩ := h.start #[.int .u8 dd, .int .i64 I, .int .u64 v]
  clear h
  have hdoc := hT.doc (fun Fx V hF => rf_do4 dd I v hF hdd hc)
  have hpk := fun W m' r (hT : TwoM w0 W pb mb xb s s m' r w.heap.size #[.int .u8 dd, .int .i64 I, .int .u64 v]) => hT.look (fun F hF => pa_live I hF)
  generalize (s.get I).isSome = ok at *
  have HM := Hidden.mk (And.intro hmt hlim)
  clear hT hmt hlim
  go_enter Try.func31, Try.ntmps31
  go_wp2_with fail
  refine hdoc.mono ?_; clear hdoc; rintro e w1 ⟨rfl, hT⟩
  have b0 : w1.cell? ⟨w.heap.size, 0, none⟩ = some (.int .u8 dd) := hT.act.cell 0
  have b1 : w1.cell? ⟨w.heap.size, 1, none⟩ = some (.int .i64 I) := hT.act.cell 1
  have hpk := hpk w1 _ _ hT
  have HT := Hidden.mk hT
  clear hT
  go_wp2_with fail
  refine hpk.mono ?_; clear hpk; rintro e w3 ⟨rfl, rfl⟩
  go_wp2_with fail
  go_ret
  exact ⟨rfl, s, HT.out.alike rfl HM.out.1 HM.out.2⟩

set_option maxRecDepth 100000 in
set_option maxHeartbeats 1000000 in
theorem act_5 {w0 w : World} {pb mb xb limit : Nat} {s : PS Int} (dd I v : Int) (h : Alike w0 w pb mb xb limit s) (hdd : 0 ≤ dd ∧ dd ≤ 255) (hc : dd % 6 = 5) :
    Calls Try.prog 31 #[.pointer (some ⟨pb, 0, none⟩), .pointer (some ⟨xb, 0, none⟩), .agg #[.int .u8 dd, .int .i64 I, .int .u64 v]] w fun e w' => e = .returned (.bool true) ∧ ∃ s', Alike w0 w' pb mb xb limit s' := by
  obtain ⟨m, hT, hmt, hlim⟩ := h.start #[.int .u8 dd, .int .i64 I, .int .u64 v]
  clear h
  have hdoc := hT.doc (fun Fx V hF => rf_do5 dd I v hF hdd hc)
  have hpool := fun W (hT : TwoM w0 W pb mb xb s (PS.empty s.limit) m m.reads w.heap.size #[.int .u8 dd, .int .i64 I, .int .u64 v]) => TwoM.pool (t := PS.empty s.limit) hT (fun F hF => pa_clear hF)
  have HM := Hidden.mk (And.intro hmt hlim)
  clear hT hmt hlim
  go_enter Try.func31, Try.ntmps31
  go_wp2_with fail
  refine hdoc.mono ?_; clear hdoc; rintro e w1 ⟨rfl, hT⟩
  have b0 : w1.cell? ⟨w.heap.size, 0, none⟩ = some (.int .u8 dd) := hT.act.cell 0
  have hpool := hpool w1 hT
  clear hT
  go_wp2_with fail
  refine hpool.mono ?_; clear hpool; rintro e w2 ⟨rfl, hT⟩
  have HT := Hidden.mk hT
  clear hT
  go_wp2_with fail
  go_ret
  exact ⟨rfl, _, HT.out.alike rfl HM.out.1 HM.out.2⟩

theorem act_any {w0 w : World} {pb mb xb limit : Nat} {s : PS Int} (dd I v : Int) (h : Alike w0 w pb mb xb limit s) (hdd : 0 ≤ dd ∧ dd ≤ 255) :
    Calls Try.prog 31 #[.pointer (some ⟨pb, 0, none⟩), .pointer (some ⟨xb, 0, none⟩), .agg #[.int .u8 dd, .int .i64 I, .int .u64 v]] w fun e w' => e = .returned (.bool true) ∧ ∃ s', Alike w0 w' pb mb xb limit s' := by
  rcases (show dd % 6 = 0 ∨ dd % 6 = 1 ∨ dd % 6 = 2 ∨ dd % 6 = 3 ∨ dd % 6 = 4 ∨ dd % 6 = 5 by omega) with hc | hc | hc | hc | hc | hc
  · exact act_0 dd I v h hdd hc
  · exact act_1 dd I v h hdd hc
  · exact act_2 dd I v h hdd hc
  · exact act_3 dd I v h hdd hc
  · exact act_4 dd I v h hdd hc
  · exact act_5 dd I v h hdd hc
end Go.Proofs.Ytnbanbfnabhjjaa
