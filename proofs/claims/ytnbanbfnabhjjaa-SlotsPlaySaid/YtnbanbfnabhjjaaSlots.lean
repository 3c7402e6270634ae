/- Slots in memory: a pool, a table and a meter of its own; what each of its calls does. -/
import Derived.Test.YtnbanbfnabhjjaaSlotsM
import Derived.Test.YtnbanbfnabhjjaaPoolA
import Derived.RegionCalls
namespace Go.Proofs.Ytnbanbfnabhjjaa
open Go.RowKit
set_option linter.unusedVariables false
set_option linter.unusedSimpArgs false

structure SlotsB (w : World) (sb mb pb tb : Nat) (Fp Ft : List Nat) (s : PS Int) (l : List (HK × Int)) : Prop where
  blk : Blk w sb 143 #[.pointer (some ⟨mb, 0, none⟩), .pointer (some ⟨pb, 0, none⟩), .pointer (some ⟨tb, 0, none⟩)]
  pool : PoolAt TU w pb mb Fp s
  tab : ∃ b pr, TabAt w tb mb Ft b pr l
  met : ∃ m, MeterAt w mb m
  d1 : mb ∉ Fp
  d2 : mb ∉ Ft
  d3 : ∀ k ∈ Fp, k ∉ Ft
  d4 : sb ∉ Fp
  d5 : sb ∉ Ft
  d6 : sb ≠ mb
/-- Only blocks that O lets turn have turned; all new ones are such. -/
def Keep (O : Nat → Prop) (w0 w : World) : Prop := (∃ S : List Nat, (∀ k ∈ S, O k) ∧ Mod S w0 w) ∧ ∀ k, w0.heap.size ≤ k → O k
theorem Keep.refl {O : Nat → Prop} {w : World} (h : ∀ k, w.heap.size ≤ k → O k) : Keep O w w := ⟨⟨[], by simp, Mod.refl _ w⟩, h⟩
theorem Keep.size {O : Nat → Prop} {w0 w : World} (h : Keep O w0 w) : w0.heap.size ≤ w.heap.size := by obtain ⟨⟨S, _, hm⟩, _⟩ := h; exact hm.size
theorem Keep.rebase {O : Nat → Prop} {w0 w : World} (h : Keep O w0 w) : Keep O w w := Keep.refl fun k hk => h.2 k (Nat.le_trans h.size hk)
theorem Keep.same {O : Nat → Prop} {w0 w : World} (h : Keep O w0 w) {k : Nat} (hk : k < w0.heap.size) (hn : ¬ O k) : w.heap[k]? = w0.heap[k]? := by
  obtain ⟨⟨S, hS, hm⟩, _⟩ := h; exact hm.block k hk (fun h => hn (hS k h))
theorem Keep.below {O : Nat → Prop} {w0 w : World} (h : Keep O w0 w) {B : Nat} (hB : B ≤ w0.heap.size) (hO : ∀ k, O k → B ≤ k) : Below B w0 w := by
  obtain ⟨⟨S, hS, hm⟩, _⟩ := h; exact hm.below hB (fun k hk => hO k (hS k hk))
theorem Mod.belowOf' {O : Nat → Prop} {S : List Nat} {w0 w w' : World} (hm : Mod S w w') (hb : Keep O w0 w) (hS : ∀ k ∈ S, O k) : Keep O w0 w' := by
  obtain ⟨⟨T, hT, h1⟩, h2⟩ := hb
  refine ⟨⟨T ++ S, fun k hk => (List.mem_append.1 hk).elim (hT k) (hS k), (h1.mono (fun x hx => .inl (List.mem_append_left _ hx))).trans hm (fun x hx => .inl (List.mem_append_right _ hx))⟩, h2⟩
theorem Fresh.geO {O : Nat → Prop} {w0 w : World} {F F' : List Nat} (h : Fresh w F F') (hB : Keep O w0 w) (hF : ∀ k ∈ F, O k) : ∀ k ∈ F', O k := by
  intro k hk
  rcases h k hk with h1 | h1
  · exact hF k h1
  · exact hB.2 k (Nat.le_trans hB.size h1)
theorem mem_cons_O {O : Nat → Prop} {mb : Nat} {F : List Nat} (h4 : O mb) (h5 : ∀ k ∈ F, O k) : ∀ x ∈ mb :: F, O x := by
  intro x hx
  rcases List.mem_cons.1 hx with rfl | hx
  · exact h4
  · exact h5 x hx
/-- Slots that the call itself has made. -/
def SB (O : Nat → Prop) (w0 w : World) (sb mb pb tb : Nat) (s : PS Int) (l : List (HK × Int)) : Prop := ∃ Fp Ft, SlotsB w sb mb pb tb Fp Ft s l ∧ O mb ∧ (∀ k ∈ Fp, O k) ∧ (∀ k ∈ Ft, O k) ∧ Keep O w0 w
/-- What a law sees of slots. -/
def SM (O : Nat → Prop) (w0 w : World) (sb limit : Nat) (f : Int → Option Int) (n : Nat) : Prop := ∃ mb pb tb s l, SB O w0 w sb mb pb tb s l ∧ SRel s l ∧ s.limit = limit ∧ s.live = n ∧ ∀ k, sval s l k = f k
def fput (f : Int → Option Int) (k v : Int) : Int → Option Int := fun x => if x = k then some v else f x
def fdrop (f : Int → Option Int) (k : Int) : Int → Option Int := fun x => if x = k then none else f x
section
variable {O : Nat → Prop} {w0 w w' : World} {sb mb pb tb : Nat} {Fp Ft Fp' Ft' : List Nat} {s s' : PS Int} {l l' : List (HK × Int)} {limit n : Nat} {f : Int → Option Int}
theorem SlotsB.mod0 (h : SlotsB w sb mb pb tb Fp Ft s l) (hm : Mod [] w w') : SlotsB w' sb mb pb tb Fp Ft s l := by
  obtain ⟨b, pr, ht⟩ := h.tab
  obtain ⟨m, hme⟩ := h.met
  exact ⟨h.blk.mod hm (by simp), h.pool.mod hm (by simp), ⟨b, pr, ht.mod hm (by simp)⟩, ⟨m, hme.mod hm (by simp)⟩, h.d1, h.d2, h.d3, h.d4, h.d5, h.d6⟩
theorem SB.mod0 (h : SB O w0 w sb mb pb tb s l) (hm : Mod [] w w') : SB O w0 w' sb mb pb tb s l := by
  obtain ⟨Fp, Ft, h1, h2, h3, h4, h5⟩ := h
  exact ⟨Fp, Ft, h1.mod0 hm, h2, h3, h4, hm.belowOf' h5 (by simp)⟩
theorem SB.blk (h : SB O w0 w sb mb pb tb s l) : Blk w sb 143 #[.pointer (some ⟨mb, 0, none⟩), .pointer (some ⟨pb, 0, none⟩), .pointer (some ⟨tb, 0, none⟩)] := by
  obtain ⟨Fp, Ft, h1, _⟩ := h; exact h1.blk
theorem SB.keep (h : SB O w0 w sb mb pb tb s l) : Keep O w0 w := by obtain ⟨Fp, Ft, h1, h2, h3, h4, h5⟩ := h; exact h5
theorem SB.wf (h : SB O w0 w sb mb pb tb s l) : s.wf := by obtain ⟨Fp, Ft, h1, _⟩ := h; exact h1.pool.wf
theorem SM.keep (h : SM O w0 w sb limit f n) : Keep O w0 w := by obtain ⟨mb, pb, tb, s, l, h1, _⟩ := h; exact h1.keep
theorem SM.rebase (h : SM O w0 w sb limit f n) : SM O w w sb limit f n := by
  obtain ⟨mb, pb, tb, s, l, ⟨Fp, Ft, h1, h2, h3, h4, h5⟩, h6⟩ := h; exact ⟨mb, pb, tb, s, l, ⟨Fp, Ft, h1, h2, h3, h4, h5.rebase⟩, h6⟩
/-- A block x of another's beside. -/
theorem SM.beside (h : SM O w w sb limit f n) (o : Obj) : SM (fun k => O k ∧ k ≠ w.heap.size) (w.alloc o) (w.alloc o) sb limit f n := by
  obtain ⟨mb, pb, tb, s, l, ⟨Fp, Ft, h1, h2, h3, h4, h5⟩, h6⟩ := h
  obtain ⟨b, pr, ht⟩ := h1.tab
  obtain ⟨m, hme⟩ := h1.met
  refine ⟨mb, pb, tb, s, l, ⟨Fp, Ft, h1.mod0 ((Mod.refl _ w).alloc o), ⟨h2, Nat.ne_of_lt hme.lt⟩, fun k hk => ⟨h3 k hk, Nat.ne_of_lt (h1.pool.lt k hk)⟩, fun k hk => ⟨h4 k hk, Nat.ne_of_lt (ht.lt k hk)⟩, Keep.refl fun k hk => ?_⟩, h6⟩
  simp at hk
  exact ⟨h5.2 k (by omega), by omega⟩
/-- What turns only blocks that are not the slots' own. -/
theorem SM.other (h : SM O w w sb limit f n) {S : List Nat} (hm : Mod S w w') (hS : ∀ k ∈ S, ¬ O k ∧ k ≠ sb) : SM O w' w' sb limit f n := by
  obtain ⟨mb, pb, tb, s, l, ⟨Fp, Ft, h1, h2, h3, h4, h5⟩, h6⟩ := h
  obtain ⟨b, pr, ht⟩ := h1.tab
  obtain ⟨m, hme⟩ := h1.met
  refine ⟨mb, pb, tb, s, l, ⟨Fp, Ft, ⟨h1.blk.mod hm (fun hk => (hS _ hk).2 rfl), h1.pool.mod hm (fun k hk hk' => (hS _ hk).1 (h3 k hk')), ⟨b, pr, ht.mod hm (fun k hk hk' => (hS _ hk).1 (h4 k hk'))⟩, ⟨m, hme.mod hm (fun hk => (hS _ hk).1 h2)⟩, h1.d1, h1.d2, h1.d3, h1.d4, h1.d5, h1.d6⟩, h2, h3, h4, Keep.refl fun k hk => h5.2 k (Nat.le_trans hm.size hk)⟩, h6⟩
theorem SM.mod0 (h : SM O w0 w sb limit f n) (hm : Mod [] w w') : SM O w0 w' sb limit f n := by obtain ⟨mb, pb, tb, s, l, h1, h2⟩ := h; exact ⟨mb, pb, tb, s, l, h1.mod0 hm, h2⟩
theorem SB.turn_pool (h : SlotsB w sb mb pb tb Fp Ft s l) (h2 : O mb) (h3 : ∀ k ∈ Fp, O k) (h4 : ∀ k ∈ Ft, O k) (h5 : Keep O w0 w)
    (k1 : PoolAt TU w' pb mb Fp' s') (k2 : Mod Fp w w') (k3 : Fresh w Fp Fp') : SB O w0 w' sb mb pb tb s' l := by
  obtain ⟨b, pr, ht⟩ := h.tab
  obtain ⟨m, hme⟩ := h.met
  refine ⟨Fp', Ft, ⟨h.blk.mod k2 h.d4, k1, ⟨b, pr, ht.mod k2 h.d3⟩, ⟨m, hme.mod k2 h.d1⟩, k3.not_mem hme.lt h.d1, h.d2, ?_, k3.not_mem h.blk.lt h.d4, h.d5, h.d6⟩, h2, k3.geO h5 h3, h4, k2.belowOf' h5 h3⟩
  intro k hk hk'
  exact k3.apart (fun k hk => ht.lt k hk) (fun k hk hk' => h.d3 k hk' hk) k hk' hk
theorem SB.turn_tab (h : SlotsB w sb mb pb tb Fp Ft s l) (h2 : O mb) (h3 : ∀ k ∈ Fp, O k) (h4 : ∀ k ∈ Ft, O k) (h5 : Keep O w0 w) {b : Nat} {pr : Int}
    (k1 : TabAt w' tb mb Ft' b pr l') (k2 : Mod Ft w w') (k3 : Fresh w Ft Ft') : SB O w0 w' sb mb pb tb s l' := by
  obtain ⟨m, hme⟩ := h.met
  have hd : ∀ k ∈ Ft, k ∉ Fp := fun k hk hk' => h.d3 k hk' hk
  refine ⟨Fp, Ft', ⟨h.blk.mod k2 h.d5, h.pool.mod k2 hd, ⟨b, pr, k1⟩, ⟨m, hme.mod k2 h.d2⟩, h.d1, k3.not_mem hme.lt h.d2, ?_, h.d4, k3.not_mem h.blk.lt h.d5, h.d6⟩, h2, h3, k3.geO h5 h4, k2.belowOf' h5 h4⟩
  exact k3.apart (fun k hk => h.pool.lt k hk) h.d3
theorem sb_alloc {i : Nat} {ok : Bool} (v : Int) (h : SB O w0 w sb mb pb tb s l) (hs : s.alloc v = (s', i, ok)) :
    Calls Try.prog 18 #[.pointer (some ⟨pb, 0, none⟩), .int .u64 v] w fun e w' => e = .returned (.tuple #[.int .i64 i, .bool ok]) ∧ SB O w0 w' sb mb pb tb s' l := by
  obtain ⟨Fp, Ft, h1, h2, h3, h4, h5⟩ := h
  refine (pa_alloc v h1.pool hs).mono ?_
  rintro e w' ⟨rfl, F', k1, k2, k3⟩
  exact ⟨rfl, SB.turn_pool h1 h2 h3 h4 h5 k1 k2 k3⟩
theorem sb_free {v : Int} (i : Nat) (h : SB O w0 w sb mb pb tb s l) (hg : s.get (i : Int) = some v) :
    Calls Try.prog 22 #[.pointer (some ⟨pb, 0, none⟩), .int .i64 i] w fun e w' => e = .returned (.bool true) ∧ SB O w0 w' sb mb pb tb (s.drop i) l := by
  obtain ⟨Fp, Ft, h1, h2, h3, h4, h5⟩ := h
  refine (pa_free i h1.pool hg).mono ?_
  rintro e w' ⟨rfl, F', k1, k2, k3⟩
  exact ⟨rfl, SB.turn_pool h1 h2 h3 h4 h5 k1 k2 k3⟩
theorem sb_pput {u : Int} (i : Nat) (v : Int) (h : SB O w0 w sb mb pb tb s l) (hg : s.get (i : Int) = some u) :
    Calls Try.prog 27 #[.pointer (some ⟨pb, 0, none⟩), .int .i64 i, .int .u64 v] w fun e w' => e = .returned (.bool true) ∧ SB O w0 w' sb mb pb tb (s.put i v) l := by
  obtain ⟨Fp, Ft, h1, h2, h3, h4, h5⟩ := h
  refine (pa_put i v h1.pool hg).mono ?_
  rintro e w' ⟨rfl, k1, k2⟩
  exact ⟨rfl, SB.turn_pool h1 h2 h3 h4 h5 k1 k2 (Fresh.refl _ _)⟩
theorem sb_at (i : Int) (h : SB O w0 w sb mb pb tb s l) :
    Calls Try.prog 23 #[.pointer (some ⟨pb, 0, none⟩), .int .i64 i] w fun e w' => e = .returned (.tuple #[.int .u64 ((s.get i).getD 0), .bool (s.get i).isSome]) ∧ SB O w0 w' sb mb pb tb s l := by
  obtain ⟨Fp, Ft, h1, h2, h3, h4, h5⟩ := h
  obtain ⟨m, hme⟩ := h1.met
  obtain ⟨b, pr, ht⟩ := h1.tab
  refine (pa_at i h1.pool hme h1.d1).mono ?_
  rintro e w' ⟨rfl, k1, k2, k3⟩
  exact ⟨rfl, Fp, Ft, ⟨h1.blk.mod k3 (by simpa using h1.d6), k1, ⟨b, pr, ht.mod k3 (by simpa using h1.d2)⟩, ⟨_, k2⟩, h1.d1, h1.d2, h1.d3, h1.d4, h1.d5, h1.d6⟩, h2, h3, h4, k3.belowOf' h5 (by simpa using h2)⟩
theorem sb_len (h : SB O w0 w sb mb pb tb s l) : Calls Try.prog 19 #[.pointer (some ⟨pb, 0, none⟩)] w fun e w' => e = .returned (.int .i64 s.live) ∧ w = w' := by
  obtain ⟨Fp, Ft, h1, _⟩ := h; exact pa_len h1.pool
theorem sb_room (i : Int) (h : SB O w0 w sb mb pb tb s l) : Calls Try.prog 20 #[.pointer (some ⟨pb, 0, none⟩), .int .i64 i] w fun e w' => e = .returned (.bool (decide (i ≤ (s.limit : Int) - s.live))) ∧ SB O w0 w' sb mb pb tb s l := by
  have h0 := h
  obtain ⟨Fp, Ft, h1, _⟩ := h
  refine (pa_room i h1.pool).mono ?_
  rintro e w' ⟨rfl, k1⟩
  exact ⟨rfl, h0.mod0 k1⟩
theorem sb_pclear (h : SB O w0 w sb mb pb tb s l) : Calls Try.prog 25 #[.pointer (some ⟨pb, 0, none⟩)] w fun e w' => e = .returned (.tuple #[]) ∧ SB O w0 w' sb mb pb tb (PS.empty s.limit) l := by
  obtain ⟨Fp, Ft, h1, h2, h3, h4, h5⟩ := h
  refine (pa_clear h1.pool).mono ?_
  rintro e w' ⟨rfl, F', k1, k2, k3⟩
  exact ⟨rfl, SB.turn_pool h1 h2 h3 h4 h5 k1 k2 k3⟩
theorem sb_get (k : HK) (hk : KeyOK k) (h : SB O w0 w sb mb pb tb s l) :
    Calls Try.prog 40 #[.pointer (some ⟨tb, 0, none⟩), keyV k] w fun e w' => e = .returned (.tuple #[.int .u64 ((lk l k).getD 0), .bool (lk l k).isSome]) ∧ SB O w0 w' sb mb pb tb s l := by
  obtain ⟨Fp, Ft, h1, h2, h3, h4, h5⟩ := h
  obtain ⟨m, hme⟩ := h1.met
  obtain ⟨b, pr, ht⟩ := h1.tab
  refine (hash_get k hk ht hme h1.d2).mono ?_
  rintro e w' ⟨rfl, pr', k1, k2, k3, k4, k5⟩
  refine ⟨rfl, Fp, Ft, ⟨h1.blk.mod k3 ?_, h1.pool.mod k3 ?_, ⟨b, pr', k1⟩, ⟨_, k2⟩, h1.d1, h1.d2, h1.d3, h1.d4, h1.d5, h1.d6⟩, h2, h3, h4, k3.belowOf' h5 (mem_cons_O h2 h4)⟩
  · simp only [List.mem_cons, not_or]; exact ⟨h1.d6, h1.d5⟩
  · intro x hx hx'
    rcases List.mem_cons.1 hx with rfl | hx
    · exact h1.d1 hx'
    · exact h1.d3 x hx' hx
theorem sb_hput (k : HK) (v : Int) (hk : KeyOK k) (h : SB O w0 w sb mb pb tb s l) (hln : l.length ≤ 1073741824) :
    Calls Try.prog 38 #[.pointer (some ⟨tb, 0, none⟩), keyV k, .int .u64 v] w fun e w' => e = .returned (.bool (lk l k).isNone) ∧ SB O w0 w' sb mb pb tb s (putL l k v) := by
  obtain ⟨Fp, Ft, h1, h2, h3, h4, h5⟩ := h
  obtain ⟨b, pr, ht⟩ := h1.tab
  refine (hash_put k v hk ht hln).mono ?_
  rintro e w' ⟨rfl, F', b', pr', k1, k2, k3, k4, k5⟩
  exact ⟨rfl, SB.turn_tab h1 h2 h3 h4 h5 k1 k2 k3⟩
theorem sb_hdrop (k : HK) (hk : KeyOK k) (h : SB O w0 w sb mb pb tb s l) :
    Calls Try.prog 39 #[.pointer (some ⟨tb, 0, none⟩), keyV k] w fun e w' => e = .returned (.bool (lk l k).isSome) ∧ SB O w0 w' sb mb pb tb s (dropL l k) := by
  obtain ⟨Fp, Ft, h1, h2, h3, h4, h5⟩ := h
  obtain ⟨b, pr, ht⟩ := h1.tab
  refine (hash_drop k hk ht).mono ?_
  rintro e w' ⟨rfl, F', b', pr', k1, k2, k3, k4, k5⟩
  exact ⟨rfl, SB.turn_tab h1 h2 h3 h4 h5 k1 k2 k3⟩
theorem sb_hclear (h : SB O w0 w sb mb pb tb s l) : Calls Try.prog 75 #[.pointer (some ⟨tb, 0, none⟩)] w fun e w' => e = .returned (.tuple #[]) ∧ SB O w0 w' sb mb pb tb s [] := by
  obtain ⟨Fp, Ft, h1, h2, h3, h4, h5⟩ := h
  obtain ⟨b, pr, ht⟩ := h1.tab
  refine (hash_clear ht).mono ?_
  rintro e w' ⟨rfl, F', k1, k2, k3⟩
  exact ⟨rfl, SB.turn_tab h1 h2 h3 h4 h5 k1 k2 k3⟩

set_option maxHeartbeats 400000 in
theorem slots_key (k : Int) (w : World) : Calls Try.prog 104 #[.int .u64 k] w fun e w' => e = .returned (.agg #[.int .u8 1, .int .u64 k]) ∧ w.alloc (.cells #[.int .u8 1, .int .u64 k] 64) = w' := by
  go_enter Try.func104, Try.ntmps104
  go_wp2
  exact bodyPost_ret (v := .agg #[.int .u8 1, .int .u64 k]) (by simp [results, Try.results104, go_sem]) rfl ⟨rfl, rfl⟩

set_option maxRecDepth 100000 in
set_option maxHeartbeats 1000000 in
/-- Where a value stands: the table's answer; the table and the meter may have turned. -/
theorem slots_at (k : Int) (hk : U64 k) (h : SB O w0 w sb mb pb tb s l) (hr : SRel s l) :
    Calls Try.prog 103 #[.pointer (some ⟨sb, 0, none⟩), .int .u64 k] w fun e w' => e = .returned (.tuple #[.int .i64 ((lk l (1, k)).getD 0), .bool (lk l (1, k)).isSome]) ∧ SB O w0 w' sb mb pb tb s l := by
  have hkey : KeyOK (1, k) := ⟨by simp, by simp, hk⟩
  have c2 : w.cell? ⟨sb, 2, none⟩ = some (.pointer (some ⟨tb, 0, none⟩)) := h.blk.cell 2
  have hlt := h.blk.lt
  have hgets : ∀ W, Mod [] w W → Calls Try.prog 40 #[.pointer (some ⟨tb, 0, none⟩), .agg #[.int .u8 1, .int .u64 k]] W fun e w' => e = .returned (.tuple #[.int .u64 ((lk l (1, k)).getD 0), .bool (lk l (1, k)).isSome]) ∧ SB O w0 w' sb mb pb tb s l := by
    intro W hW
    exact sb_get (1, k) hkey (h.mod0 hW)
  have hrange : Hidden (∀ i, lk l (1, k) = some i → 0 ≤ i ∧ i ≤ 1048576) := ⟨fun i hi => by
    obtain ⟨v, hv, _⟩ := hr.sval_some hi
    obtain ⟨h1, h0⟩ := PS.get_lt hv
    have := h.wf.lim; have := h.wf.len; omega⟩
  clear h
  cases hl : lk l (1, k) with
  | none =>
    rw [hl] at hgets
    simp only [Option.getD_none, Option.isSome_none] at hgets ⊢
    clear hl
    go_enter Try.func103, Try.ntmps103
    go_wp2_with fail
    go_region_with (first | (go_at_call 104; refine (slots_key _ _).mono ?_; rintro e w' ⟨rfl, rfl⟩) | (go_at_call 40; refine (hgets _ (by first | exact ((Mod.refl _ w).drew).alloc _ | exact ((Mod.refl _ w).alloc _).drew)).mono ?_; rintro e w3 ⟨rfl, hS⟩))
    all_goals
      have HS := Hidden.mk hS
      clear hS
      go_wp2_with fail
      go_ret2
      exact ⟨rfl, HS.out⟩
  | some i =>
    obtain ⟨r1, r2⟩ := hrange.out i hl
    rw [hl] at hgets
    simp only [Option.getD_some, Option.isSome_some] at hgets ⊢
    clear hl
    go_enter Try.func103, Try.ntmps103
    go_wp2_with fail
    go_region_with (first | (go_at_call 104; refine (slots_key _ _).mono ?_; rintro e w' ⟨rfl, rfl⟩) | (go_at_call 40; refine (hgets _ (by first | exact ((Mod.refl _ w).drew).alloc _ | exact ((Mod.refl _ w).alloc _).drew)).mono ?_; rintro e w3 ⟨rfl, hS⟩))
    all_goals
      have HS := Hidden.mk hS
      clear hS
      go_wp2_with fail
      go_ret2
      exact ⟨rfl, HS.out⟩
end
end Go.Proofs.Ytnbanbfnabhjjaa
