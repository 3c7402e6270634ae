/- The document's pool (stepstoneref04) in memory: Do. -/
import Derived.Test.YtnbanbfnabhjjaaRef04
import Derived.Test.YtnbanbfnabhjjaaMore
import Derived.Deep.DeepCutAuto
import Derived.Deep.RegionHeld3
namespace Go.Proofs.Ytnbanbfnabhjjaa
open Go.RowKit
set_option linter.unusedVariables false
set_option linter.unusedSimpArgs false
theorem quiet_drewN4 {P : Program} {f : FuncId} {args : Array Value} {w : World} {n : Nat} {v : Value}
    (h : Calls P f args (w.drewN n) fun e w' => e = .returned v ∧ w.drewN n = w') : Calls P f args (w.drewN n) fun e w' => e = .returned v ∧ ∃ m, w' = w.drewN m :=
  h.mono fun e w' h => ⟨h.1, n, h.2.symm⟩
/-- What Do leaves. -/
def DoPost (w : World) (xb : Nat) (F : List Nat) (n v : Int) (ok : Bool) (s' : PS Int) (reads' : Int) (e : Ending) (w' : World) : Prop :=
  e = .returned (.tuple #[.int .i64 n, .int .u64 v, .bool ok]) ∧ ∃ F' V', RefAt w' xb F' V' s' reads' ∧ Mod F w w' ∧ ∀ k ∈ F', k ∈ F ∨ w.heap.size ≤ k
theorem ref04_u64 : (Try.prog.info? 22).map (fun i => (i.zero, i.size, i.bytes)) = some (some (.int .u64 0), 1, 8) := by kernel_rfl
theorem ref04_bool : (Try.prog.info? 4).map (fun i => (i.zero, i.size, i.bytes)) = some (some (.bool false), 1, 1) := by kernel_rfl
theorem holds_cell {w : World} {b : Nat} {a : Value} (h : w.cell? ⟨b, 0, none⟩ = some a) : Holds w (.slice (some ⟨b, 0, none⟩) 1 1) 1 1 [a] := by
  refine .inr ⟨_, _, rfl, rfl, fun j u hj => ?_⟩
  have hj2 : j < 1 := (List.getElem?_eq_some_iff.1 hj).1
  obtain rfl : j = 0 := by omega
  rw [show (⟨b, 0, none⟩ : Addr).add 0 = ⟨b, 0, none⟩ from by unfold Addr.add; simp]
  rw [h]; simpa using hj
theorem cell_far4 {w : World} {b i b' i' : Nat} {u x : Value} (h : w.cell? ⟨b, i, none⟩ = some x) (hne : b ≠ b') : (w.setCell ⟨b', i', none⟩ u).cell? ⟨b, i, none⟩ = some x := by
  have e : (w.setCell ⟨b', i', none⟩ u).heap[b]? = w.heap[b]? := Below.heap_setCell _ _ _ _ (by simpa using hne)
  unfold World.cell? at h ⊢; simp only [e]; exact h
theorem cell_modS {S : List Nat} {w w' : World} (hm : Mod S w w') {q i : Nat} {x : Value} (hq : q ∉ S) (hx : w.cell? ⟨q, i, none⟩ = some x) : w'.cell? ⟨q, i, none⟩ = some x := by
  have hlt : q < w.heap.size := by simpa using World.block_lt_of_cell? w _ hx
  have e := hm.block q hlt hq
  unfold World.cell? at hx ⊢; simp only [e]; exact hx
theorem bcells_set (l : List Bool) (i : Nat) (b : Bool) : bcells (l.set i b) = (bcells l).set i (.bool b) := by simp [bcells, List.map_set]
theorem icells_set (k : IntKind) (l : List Int) (i : Nat) (x : Int) : icells k (l.set i x) = (icells k l).set i (.int k x) := by simp [icells, List.map_set]
theorem DoPost.same {w w' : World} {xb : Nat} {vv lv fv : Value} {V : List Int} {s : PS Int} {reads n v : Int} {ok : Bool} (h : RefIn w xb vv lv fv V s reads) (hm : Mod [] w w') : DoPost w xb (xb :: (rb vv ++ (rb lv ++ rb fv))) n v ok s reads (.returned (.tuple #[.int .i64 n, .int .u64 v, .bool ok])) w' :=
  ⟨rfl, _, V, ⟨vv, lv, fv, rfl, h.mod hm (by simp)⟩, hm.mono (by simp), fun k hk => .inl hk⟩

set_option maxRecDepth 100000 in
set_option maxHeartbeats 1000000 in
theorem do1_no {w : World} {xb : Nat} {vv lv fv : Value} {V : List Int} {s : PS Int} {reads : Int} (dd I v : Int) (h : RefIn w xb vv lv fv V s reads) (hdd : 0 ≤ dd ∧ dd ≤ 255) (hc : dd % 6 = 1) (hg : s.get I = none) :
    Calls Try.prog 80 #[.pointer (some ⟨xb, 0, none⟩), .agg #[.int .u8 dd, .int .i64 I, .int .u64 v]] w (DoPost w xb (xb :: (rb vv ++ (rb lv ++ rb fv))) 0 0 false s reads) := by
  have htk := ref04_taken I (h.mod ((Mod.refl [] w).alloc (.cells #[.int .u8 dd, .int .i64 I, .int .u64 v] 51)) (by simp))
  have hxlt := h.blk.lt
  rw [hg] at htk
  simp only [Option.isSome_none] at htk
  have H := Hidden.mk h
  clear h hg
  go_enter Try.func80, Try.ntmps80
  go_wp2_with fail
  refine htk.mono ?_; clear htk; rintro e w1 ⟨rfl, rfl⟩
  go_wp2_with fail
  go_ret3
  exact DoPost.same H.out ((Mod.refl _ w).alloc _)

set_option maxRecDepth 100000 in
set_option maxHeartbeats 1000000 in
theorem do2_no {w : World} {xb : Nat} {vv lv fv : Value} {V : List Int} {s : PS Int} {reads : Int} (dd I v : Int) (h : RefIn w xb vv lv fv V s reads) (hdd : 0 ≤ dd ∧ dd ≤ 255) (hc : dd % 6 = 2) (hg : s.get I = none) :
    Calls Try.prog 80 #[.pointer (some ⟨xb, 0, none⟩), .agg #[.int .u8 dd, .int .i64 I, .int .u64 v]] w (DoPost w xb (xb :: (rb vv ++ (rb lv ++ rb fv))) 0 0 false s reads) := by
  have htk := ref04_taken I (h.mod ((Mod.refl [] w).alloc (.cells #[.int .u8 dd, .int .i64 I, .int .u64 v] 51)) (by simp))
  have hxlt := h.blk.lt
  rw [hg] at htk
  simp only [Option.isSome_none] at htk
  have H := Hidden.mk h
  clear h hg
  go_enter Try.func80, Try.ntmps80
  go_wp2_with fail
  refine htk.mono ?_; clear htk; rintro e w1 ⟨rfl, rfl⟩
  go_wp2_with fail
  go_ret3
  exact DoPost.same H.out ((Mod.refl _ w).alloc _)

set_option maxRecDepth 100000 in
set_option maxHeartbeats 1000000 in
theorem do3_no {w : World} {xb : Nat} {vv lv fv : Value} {V : List Int} {s : PS Int} {reads : Int} (dd I v : Int) (h : RefIn w xb vv lv fv V s reads) (hdd : 0 ≤ dd ∧ dd ≤ 255) (hc : dd % 6 = 3) (hg : s.get I = none) :
    Calls Try.prog 80 #[.pointer (some ⟨xb, 0, none⟩), .agg #[.int .u8 dd, .int .i64 I, .int .u64 v]] w (DoPost w xb (xb :: (rb vv ++ (rb lv ++ rb fv))) 0 0 false s reads) := by
  have htk := ref04_taken I (h.mod ((Mod.refl [] w).alloc (.cells #[.int .u8 dd, .int .i64 I, .int .u64 v] 51)) (by simp))
  have hxlt := h.blk.lt
  rw [hg] at htk
  simp only [Option.isSome_none] at htk
  have H := Hidden.mk h
  clear h hg
  go_enter Try.func80, Try.ntmps80
  go_wp2_with fail
  refine htk.mono ?_; clear htk; rintro e w1 ⟨rfl, rfl⟩
  go_wp2_with fail
  go_ret3
  exact DoPost.same H.out ((Mod.refl _ w).alloc _)

set_option maxRecDepth 100000 in
set_option maxHeartbeats 1000000 in
theorem do4_no {w : World} {xb : Nat} {vv lv fv : Value} {V : List Int} {s : PS Int} {reads : Int} (dd I v : Int) (h : RefIn w xb vv lv fv V s reads) (hdd : 0 ≤ dd ∧ dd ≤ 255) (hc : dd % 6 = 4) (hg : s.get I = none) :
    Calls Try.prog 80 #[.pointer (some ⟨xb, 0, none⟩), .agg #[.int .u8 dd, .int .i64 I, .int .u64 v]] w (DoPost w xb (xb :: (rb vv ++ (rb lv ++ rb fv))) 0 0 false s reads) := by
  have htk := ref04_taken I (h.mod ((Mod.refl [] w).alloc (.cells #[.int .u8 dd, .int .i64 I, .int .u64 v] 51)) (by simp))
  have hxlt := h.blk.lt
  rw [hg] at htk
  simp only [Option.isSome_none] at htk
  have H := Hidden.mk h
  clear h hg
  go_enter Try.func80, Try.ntmps80
  go_wp2_with fail
  refine htk.mono ?_; clear htk; rintro e w1 ⟨rfl, rfl⟩
  go_wp2_with fail
  go_ret3
  exact DoPost.same H.out ((Mod.refl _ w).alloc _)

set_option maxRecDepth 100000 in
set_option maxHeartbeats 1000000 in
theorem do4_yes {w : World} {xb : Nat} {vv lv fv : Value} {V : List Int} {s : PS Int} {reads : Int} (dd I v : Int) (h : RefIn w xb vv lv fv V s reads) (hdd : 0 ≤ dd ∧ dd ≤ 255) (hc : dd % 6 = 4) {u : Int} (hg : s.get I = some u) :
    Calls Try.prog 80 #[.pointer (some ⟨xb, 0, none⟩), .agg #[.int .u8 dd, .int .i64 I, .int .u64 v]] w (DoPost w xb (xb :: (rb vv ++ (rb lv ++ rb fv))) 0 0 true s reads) := by
  have htk := ref04_taken I (h.mod ((Mod.refl [] w).alloc (.cells #[.int .u8 dd, .int .i64 I, .int .u64 v] 51)) (by simp))
  have hxlt := h.blk.lt
  rw [hg] at htk
  simp only [Option.isSome_some] at htk
  have H := Hidden.mk h
  clear h hg
  go_enter Try.func80, Try.ntmps80
  go_wp2_with fail
  refine htk.mono ?_; clear htk; rintro e w1 ⟨rfl, rfl⟩
  go_wp2_with fail
  go_ret3
  exact DoPost.same H.out ((Mod.refl _ w).alloc _)

set_option maxRecDepth 100000 in
set_option maxHeartbeats 1000000 in
theorem do0_full {w : World} {xb : Nat} {vv lv fv : Value} {V : List Int} {s : PS Int} {reads : Int} (dd I v : Int) (h : RefIn w xb vv lv fv V s reads) (hdd : 0 ≤ dd ∧ dd ≤ 255) (hc : dd % 6 = 0) (hfull : s.limit ≤ s.live) :
    Calls Try.prog 80 #[.pointer (some ⟨xb, 0, none⟩), .agg #[.int .u8 dd, .int .i64 I, .int .u64 v]] w (DoPost w xb (xb :: (rb vv ++ (rb lv ++ rb fv))) 0 0 false s reads) := by
  have htk := ref04_taken I (h.mod ((Mod.refl [] w).alloc (.cells #[.int .u8 dd, .int .i64 I, .int .u64 v] 51)) (by simp))
  have hxlt := h.blk.lt
  have hlen := fun W (hW : Mod [] w W) => ref04_len (h.mod hW (by simp))
  have c3 : w.cell? ⟨xb, 3, none⟩ = some (.int .i64 s.limit) := h.blk.cell 3
  have hd : decide (s.limit ≤ s.live) = true := by simpa using hfull
  have hlim := h.wf.lim
  have H := Hidden.mk h
  clear h hfull
  generalize (s.get I).isSome = tk at htk
  go_enter Try.func80, Try.ntmps80
  go_wp2_with fail
  refine htk.mono ?_; clear htk; rintro e w1 ⟨rfl, rfl⟩
  go_wp2_with fail
  go_quiet ((go_at_call 32; exact quiet_drewN4 (hlen _ (((Mod.refl [] w).alloc _).drewN _))))
  go_wp2_with fail
  go_ret3
  exact DoPost.same H.out (((Mod.refl _ w).alloc _).drewN _)

theorem map_some_set {s : PS Int} {i : Nat} {u v : Int} (hs : s.cells[i]? = some (some u)) : (s.cells.set i (some v)).map Option.isSome = s.cells.map Option.isSome := by
  apply List.ext_getElem?; intro j
  simp only [List.getElem?_map, List.getElem?_set]
  split
  · rename_i h; subst h
    split <;> simp [hs]
    rename_i h2; exact absurd (List.getElem?_eq_some_iff.1 hs).1 h2
  · rfl
theorem map_none_set {s : PS Int} {i : Nat} (o : Option Int) : (s.cells.set i o).map Option.isSome = (s.cells.map Option.isSome).set i o.isSome := by rw [List.map_set]

set_option maxRecDepth 100000 in
set_option maxHeartbeats 1000000 in
theorem do3_yes {w : World} {xb : Nat} {vv lv fv : Value} {V : List Int} {s : PS Int} {reads : Int} (dd I v : Int) (h : RefIn w xb vv lv fv V s reads) (hdd : 0 ≤ dd ∧ dd ≤ 255) (hc : dd % 6 = 3) {u : Int} (hg : s.get I = some u) :
    Calls Try.prog 80 #[.pointer (some ⟨xb, 0, none⟩), .agg #[.int .u8 dd, .int .i64 I, .int .u64 v]] w (DoPost w xb (xb :: (rb vv ++ (rb lv ++ rb fv))) 0 0 true (s.put I.toNat v) reads) := by
  have htk := ref04_taken I (h.mod ((Mod.refl [] w).alloc (.cells #[.int .u8 dd, .int .i64 I, .int .u64 v] 51)) (by simp))
  have hxlt := h.blk.lt
  obtain ⟨_, hs⟩ := PS.get_some hg
  obtain ⟨i, rfl⟩ : ∃ i : Nat, I = i := ⟨I.toNat, by have := (PS.get_some hg).1; omega⟩
  simp only [Int.toNat_natCast] at hs
  have hi : i < s.cells.length := (List.getElem?_eq_some_iff.1 hs).1
  rw [hg] at htk
  simp only [Option.isSome_some] at htk
  have hlim : s.cells.length ≤ 1048576 := by have := h.wf.lim; have := h.wf.len; omega
  have hvl := h.vlen
  obtain ⟨g, cap, rfl, g1, g2, g3, g4, g5, g6⟩ := h.vals.at_ (by omega)
  have hcv : w.cell? ⟨g, i, none⟩ = some (.int .u64 u) := by rw [g5 i (by omega)]; exact icells_get (h.vget i u hs)
  have hfv := g6 i
  have c0 : w.cell? ⟨xb, 0, none⟩ = some (.slice (some ⟨g, 0, none⟩) V.length cap) := h.blk.cell 0
  have hgx : xb ≠ g := fun e => by have := h.vals.ty h.blk (by decide); rw [g1] at this; simp at this; exact this e
  have hgl : ∀ k ∈ rb (.slice (some ⟨g, 0, none⟩) V.length cap), k ∉ rb lv := h.live.ty2 h.vals (by decide)
  have hgf : ∀ k ∈ rb (.slice (some ⟨g, 0, none⟩) V.length cap), k ∉ rb fv := h.free.ty2 h.vals (by decide)
  have H := Hidden.mk (And.intro h (And.intro hs (And.intro hgl hgf)))
  have hiV : i < V.length := by omega
  clear h hg hs g1 g5 g6 hgl hgf hvl
  go_enter Try.func80, Try.ntmps80
  go_wp2_with fail
  refine htk.mono ?_; clear htk; rintro e w1 ⟨rfl, rfl⟩
  go_wp2_with fail
  refine wp_tail 9 (by kernel_rfl) (by kernel_rfl) ?_
  simp only [List.take_succ_cons, List.take_zero, List.drop_succ_cons, List.drop_zero]
  repeat still_step
  refine wpStill_nil ?_
  go_wp2
  go_ret3
  obtain ⟨h, hs, hgl, hgf⟩ := H.out
  have hm : Mod [g] w (((w.setCell ⟨g, i, none⟩ (.int .u64 v)).alloc (.cells #[.int .u8 dd, .int .i64 i, .int .u64 v] 51)).drew) := (((Mod.refl _ w).set (.inl (by simp)) _).alloc _).drew
  refine ⟨rfl, _, V.set i v, ⟨_, lv, fv, rfl, ?_, ?_, ?_, ?_, PS.put_wf h.wf hs, by simp [PS.put, h.vlen], ?_⟩, hm.mono (by simp [rb, Value.ownBlock]), fun k hk => .inl hk⟩
  · exact h.blk.mod hm (by simpa using hgx)
  · have := (((h.vals.stored i (.int .u64 v)).alloc (.cells #[.int .u8 dd, .int .i64 i, .int .u64 v] 51)).drew)
    rw [icells_set, List.length_set]; exact this
  · have := h.live.mod hm (fun k hk hk' => by simp at hk'; subst hk'; exact hgl k (by simp [rb, Value.ownBlock]) hk)
    simp only [PS.put, Int.toNat_natCast, List.length_set, map_some_set hs]; exact this
  · exact h.free.mod hm (fun k hk hk' => by simp at hk'; subst hk'; exact hgf k (by simp [rb, Value.ownBlock]) hk)
  · intro j y hy
    simp only [PS.put, Int.toNat_natCast, List.getElem?_set] at hy ⊢
    by_cases hij : i = j
    · subst hij; simp [hi] at hy; simp [hiV, hy]
    · rw [if_neg hij] at hy ⊢; exact h.vget j y hy

set_option maxRecDepth 100000 in
set_option maxHeartbeats 1000000 in
theorem do2_yes {w : World} {xb : Nat} {vv lv fv : Value} {V : List Int} {s : PS Int} {reads : Int} (dd I v : Int) (h : RefIn w xb vv lv fv V s reads) (hdd : 0 ≤ dd ∧ dd ≤ 255) (hc : dd % 6 = 2) {u : Int} (hg : s.get I = some u) :
    Calls Try.prog 80 #[.pointer (some ⟨xb, 0, none⟩), .agg #[.int .u8 dd, .int .i64 I, .int .u64 v]] w (DoPost w xb (xb :: (rb vv ++ (rb lv ++ rb fv))) 0 u true s (wrap64 (reads + 1))) := by
  have htk := ref04_taken I (h.mod ((Mod.refl [] w).alloc (.cells #[.int .u8 dd, .int .i64 I, .int .u64 v] 51)) (by simp))
  have hxlt := h.blk.lt
  obtain ⟨_, hs⟩ := PS.get_some hg
  obtain ⟨i, rfl⟩ : ∃ i : Nat, I = i := ⟨I.toNat, by have := (PS.get_some hg).1; omega⟩
  simp only [Int.toNat_natCast] at hs
  have hi : i < s.cells.length := (List.getElem?_eq_some_iff.1 hs).1
  rw [hg] at htk
  simp only [Option.isSome_some] at htk
  have hlim : s.cells.length ≤ 1048576 := by have := h.wf.lim; have := h.wf.len; omega
  have hvl := h.vlen
  obtain ⟨g, cap, rfl, g1, g2, g3, g4, g5, g6⟩ := h.vals.at_ (by omega)
  have hcv : w.cell? ⟨g, i, none⟩ = some (.int .u64 u) := by rw [g5 i (by omega)]; exact icells_get (h.vget i u hs)
  have c0 : w.cell? ⟨xb, 0, none⟩ = some (.slice (some ⟨g, 0, none⟩) V.length cap) := h.blk.cell 0
  have c4 : w.cell? ⟨xb, 4, none⟩ = some (.int .i64 reads) := h.blk.cell 4
  have f4 := h.blk.frozen 4
  have hgx : g ≠ xb := fun e => by have := h.vals.ty h.blk (by decide); rw [g1] at this; simp at this; exact this e.symm
  have H := Hidden.mk h
  have hiV : i < V.length := by omega
  clear h hg hs g1 g5 g6 hvl
  go_enter Try.func80, Try.ntmps80
  go_wp2_with fail
  refine htk.mono ?_; clear htk; rintro e w1 ⟨rfl, rfl⟩
  go_wp2_with fail
  go_quiet (fail)
  go_wp2_with fail
  go_ret3
  have h := H.out
  have hm : ∀ n, Mod [xb] w (((w.setCell ⟨xb, 4, none⟩ (.int .i64 (wrap64 (reads + 1)))).alloc (.cells #[.int .u8 dd, .int .i64 i, .int .u64 v] 51)).drewN n) := fun n => (((Mod.refl _ w).set (.inl (by simp)) _).alloc _).drewN n
  have hxb := h.vals.ty h.blk (by decide)
  have hxl := h.live.ty h.blk (by decide)
  have hxf := h.free.ty h.blk (by decide)
  refine ⟨rfl, _, V, ⟨_, lv, fv, rfl, ?_, h.vals.mod (hm _) (fun k hk hk' => by simp at hk'; subst hk'; exact hxb hk), h.live.mod (hm _) (fun k hk hk' => by simp at hk'; subst hk'; exact hxl hk), h.free.mod (hm _) (fun k hk hk' => by simp at hk'; subst hk'; exact hxf hk), h.wf, h.vlen, h.vget⟩, (hm _).mono (by simp), fun k hk => .inl hk⟩
  exact ((h.blk.set 4 _).alloc _).drewN _

set_option maxRecDepth 100000 in
set_option maxHeartbeats 1000000 in
theorem do5_any {w : World} {xb : Nat} {vv lv fv : Value} {V : List Int} {s : PS Int} {reads : Int} (dd I v : Int) (h : RefIn w xb vv lv fv V s reads) (hdd : 0 ≤ dd ∧ dd ≤ 255) (hc : dd % 6 = 5) :
    Calls Try.prog 80 #[.pointer (some ⟨xb, 0, none⟩), .agg #[.int .u8 dd, .int .i64 I, .int .u64 v]] w (DoPost w xb (xb :: (rb vv ++ (rb lv ++ rb fv))) 0 0 true (PS.empty s.limit) reads) := by
  have htk := ref04_taken I (h.mod ((Mod.refl [] w).alloc (.cells #[.int .u8 dd, .int .i64 I, .int .u64 v] 51)) (by simp))
  have hxlt := h.blk.lt
  generalize (s.get I).isSome = tk at htk
  have k0 : w.cell? ⟨xb, 0, none⟩ = some vv := h.blk.cell 0
  have k1 : w.cell? ⟨xb, 1, none⟩ = some lv := h.blk.cell 1
  have k2 : w.cell? ⟨xb, 2, none⟩ = some fv := h.blk.cell 2
  have f0 := h.blk.frozen 0
  have f1 := h.blk.frozen 1
  have f2 := h.blk.frozen 2
  obtain ⟨va, vc, rfl, _⟩ := h.vals.slice_
  obtain ⟨la, lc, rfl, _⟩ := h.live.slice_
  obtain ⟨fa, fc, rfl, _⟩ := h.free.slice_
  have H := Hidden.mk h
  clear h
  go_enter Try.func80, Try.ntmps80
  go_wp2_with fail
  refine htk.mono ?_; clear htk; rintro e w1 ⟨rfl, rfl⟩
  go_wp2_with fail
  go_ret3
  have h := H.out
  refine ⟨rfl, [xb], [], ⟨.slice none 0 0, .slice none 0 0, .slice none 0 0, rfl, ?_, Row.nil_ _ _ _, Row.nil_ _ _ _, Row.nil_ _ _ _, PS.empty_wf _ h.wf.lim, rfl, by simp [PS.empty]⟩, ?_, fun k hk => .inl (by simp at hk; simp [hk])⟩
  · exact (((h.blk.set 0 _).set 1 _).set 2 _).alloc _
  · exact (((((Mod.refl _ w).set (.inl (by simp)) _).set (.inl (by simp)) _).set (.inl (by simp)) _).alloc _)

set_option maxRecDepth 100000 in
set_option maxHeartbeats 1000000 in
theorem do1_yes {w : World} {xb : Nat} {vv lv fv : Value} {V : List Int} {s : PS Int} {reads : Int} (dd I v : Int) (h : RefIn w xb vv lv fv V s reads) (hdd : 0 ≤ dd ∧ dd ≤ 255) (hc : dd % 6 = 1) {u : Int} (hg : s.get I = some u) :
    Calls Try.prog 80 #[.pointer (some ⟨xb, 0, none⟩), .agg #[.int .u8 dd, .int .i64 I, .int .u64 v]] w (DoPost w xb (xb :: (rb vv ++ (rb lv ++ rb fv))) 0 0 true (s.drop I.toNat) reads) := by
  have htk := ref04_taken I (h.mod ((Mod.refl [] w).alloc (.cells #[.int .u8 dd, .int .i64 I, .int .u64 v] 51)) (by simp))
  have hxlt := h.blk.lt
  obtain ⟨_, hs⟩ := PS.get_some hg
  obtain ⟨i, rfl⟩ : ∃ i : Nat, I = i := ⟨I.toNat, by have := (PS.get_some hg).1; omega⟩
  simp only [Int.toNat_natCast] at hs
  have hi : i < s.cells.length := (List.getElem?_eq_some_iff.1 hs).1
  rw [hg] at htk
  simp only [Option.isSome_some] at htk
  have hlim : s.cells.length ≤ 1048576 := by have := h.wf.lim; have := h.wf.len; omega
  have hwf := h.wf
  have hcnt := hwf.count
  have hl1 := hwf.len
  have hl2 := hwf.lim
  obtain ⟨g, cap, rfl, g1, g2, g3, g4, g5, g6⟩ := h.live.at_ (by omega)
  have hcv : w.cell? ⟨g, i, none⟩ = some (.bool true) := by rw [g5 i (by omega)]; simp [bcells, hs]
  have hfv := g6 i
  have c1 : w.cell? ⟨xb, 1, none⟩ = some (.slice (some ⟨g, 0, none⟩) s.cells.length cap) := h.blk.cell 1
  have c2 : w.cell? ⟨xb, 2, none⟩ = some fv := h.blk.cell 2
  have hgx : xb ≠ g := fun e => by have := h.live.ty h.blk (by decide); rw [g1] at this; simp at this; exact this e
  have hgv : ∀ k ∈ rb (.slice (some ⟨g, 0, none⟩) s.cells.length cap), k ∉ rb vv := h.vals.ty2 h.live (by decide)
  have hgf : ∀ k ∈ rb (.slice (some ⟨g, 0, none⟩) s.cells.length cap), k ∉ rb fv := h.free.ty2 h.live (by decide)
  obtain ⟨fa, fc, rfl, q1, q2⟩ := h.free.slice_
  have hm : Mod [g] w ((((w.setCell ⟨g, i, none⟩ (.bool false)).alloc (.cells #[.int .u8 dd, .int .i64 i, .int .u64 v] 51)).alloc (.cells #[.int .i64 i] 3)).drew.drew) := (((((Mod.refl _ w).set (.inl (by simp)) _).alloc _).alloc _).drew).drew
  have hF := h.free.mod hm (fun k hk hk' => by simp at hk'; subst hk'; exact hgf k (by simp [rb, Value.ownBlock]) hk)
  have hN := (((Blk.new' (w := (w.setCell ⟨g, i, none⟩ (.bool false)).alloc (.cells #[.int .u8 dd, .int .i64 i, .int .u64 v] 51)) (b := w.heap.size + 1) (by simp) 3 #[.int .i64 i]).drew).drew).news
  have hX := h.blk.mod hm (by simpa using hgx)
  have hxf : xb ∉ rb (.slice fa s.free.length fc) := h.free.ty h.blk (by decide)
  have H := Hidden.mk (And.intro h (And.intro hs (And.intro hgv (And.intro hgf (And.intro hm (And.intro hX (And.intro g1 hwf)))))))
  have hfl : s.free.length ≤ 1048576 := by omega
  clear h hg hs g1 g5 g6 hgv hgf hwf hm hcnt hl2
  go_enter Try.func80, Try.ntmps80
  go_wp2_with fail
  refine htk.mono ?_; clear htk; rintro e w1 ⟨rfl, rfl⟩
  go_wp2_with fail
  refine wp_tail 7 (by kernel_rfl) (by kernel_rfl) ?_
  simp only [List.take_succ_cons, List.take_zero, List.drop_succ_cons, List.drop_zero]
  repeat still_step
  refine wpStill_nil ?_
  go_wp2
  go_region_law (refine step_app rfl (.tmp 105) (.tmp 108) 47 rfl 3 (.int .i64 0) 1 8 (by kernel_rfl) int_info rfl (by decide) (.slice fa s.free.length fc) s.free.length _ rfl hF ⟨w.heap.size + 1, 0, none⟩ 1 1 [.int .i64 i] rfl rfl hN (by simp [Value.oneCell']) (by omega) (by omega) ?_; intro b' cap' w3 r3 m3 q3; have hb3 := hX.mod m3 hxf; have hc3 : w3.cell? ⟨xb, 2, none⟩ = some (.slice fa s.free.length fc) := hb3.cell 2; have hf3 := hb3.frozen 2; have hl3 := hb3.lt)
  all_goals
    go_wp2
    go_ret3
    obtain ⟨h, hs, hgv, hgf, hm, hX2, g1, hwf⟩ := H.out
    have hb3 := hX2.mod m3 hxf
    have hpn' : xb ∉ rb (.slice b' (s.free.length + 1) cap') := r3.ty hb3 (by decide)
    have hvf := h.vals.ty2 h.free (by decide)
    have hlf := h.live.ty2 h.free (by decide)
    have hxv := h.vals.ty h.blk (by decide)
    have hxl := h.live.ty h.blk (by decide)
    refine ⟨rfl, _, V, ⟨vv, .slice (some ⟨g, 0, none⟩) s.cells.length cap, .slice b' (s.free.length + 1) cap', rfl, hb3.set 2 _, ?_, ?_, ?_, PS.drop_wf hwf hs, by simp [PS.drop, h.vlen], ?_⟩, ?_, ?_⟩
    · exact ((h.vals.mod hm (fun k hk hk' => by simp at hk'; subst hk'; exact hgv k (by simp [rb, Value.ownBlock]) hk)).mod m3 (fun k hk hk' => hvf k hk' hk)).far (p := ⟨xb, 2, none⟩) hxv _
    · have h1 := (((((h.live.stored i (.bool false)).alloc (.cells #[.int .u8 dd, .int .i64 i, .int .u64 v] 51)).alloc (.cells #[.int .i64 i] 3)).drew.drew).mod m3 (fun k hk hk' => hlf k hk' hk)).far (p := ⟨xb, 2, none⟩) hxl (.slice b' (s.free.length + 1) cap')
      have e : bcells ((s.drop i).cells.map Option.isSome) = (bcells (s.cells.map Option.isSome)).set i (.bool false) := by simp only [PS.drop]; rw [map_none_set, bcells_set]; rfl
      simp only [Int.toNat_natCast, e]
      simp only [PS.drop, List.length_set]
      exact h1
    · have := r3.far (p := ⟨xb, 2, none⟩) hpn' (.slice b' (s.free.length + 1) cap')
      simp only [PS.drop, Int.toNat_natCast, List.length_append, List.length_cons, List.length_nil, List.map_append, List.map_cons, List.map_nil]; exact this
    · intro j y hy
      simp only [PS.drop, Int.toNat_natCast, List.getElem?_set] at hy
      by_cases hij : i = j
      · subst hij; simp [hi] at hy
      · rw [if_neg hij] at hy; exact h.vget j y hy
    · exact ((hm.mono (by simp [rb, Value.ownBlock])).trans m3 (by simp +contextual)).set (.inl (by simp)) _
    · intro k hk
      simp only [List.mem_cons, List.mem_append] at hk ⊢
      rcases hk with hk | hk | hk | hk
      · exact .inl (.inl hk)
      · exact .inl (.inr (.inl hk))
      · exact .inl (.inr (.inr (.inl hk)))
      · rcases q3 k hk with hk | hk
        · exact .inl (.inr (.inr (.inr hk)))
        · right; have := hm.size; omega

set_option maxRecDepth 100000 in
set_option maxHeartbeats 2000000 in
theorem do0_re {w : World} {xb : Nat} {vv lv fv : Value} {V : List Int} {s : PS Int} {reads : Int} (dd I v : Int) (h : RefIn w xb vv lv fv V s reads) (hdd : 0 ≤ dd ∧ dd ≤ 255) (hc : dd % 6 = 0) (hl : s.live < s.limit) {i : Nat} (hf : s.free.getLast? = some i) :
    Calls Try.prog 80 #[.pointer (some ⟨xb, 0, none⟩), .agg #[.int .u8 dd, .int .i64 I, .int .u64 v]] w (DoPost w xb (xb :: (rb vv ++ (rb lv ++ rb fv))) i 0 true (s.take v) reads) := by
  have htk := ref04_taken I (h.mod ((Mod.refl [] w).alloc (.cells #[.int .u8 dd, .int .i64 I, .int .u64 v] 51)) (by simp))
  have hxlt := h.blk.lt
  have hlen := fun W (hW : Mod [] w W) => ref04_len (h.mod hW (by simp))
  have c3 : w.cell? ⟨xb, 3, none⟩ = some (.int .i64 s.limit) := h.blk.cell 3
  have hd : decide (s.limit ≤ s.live) = false := by simpa using hl
  have hlim := h.wf.lim
  have hlen0 := h.wf.len
  have hcnt := h.wf.count
  have H := Hidden.mk h
  have hl' := Hidden.mk hl
  clear h hl
  generalize (s.get I).isSome = tk at htk
  go_enter Try.func80, Try.ntmps80
  go_wp2_with fail
  refine htk.mono ?_; clear htk; rintro e w1 ⟨rfl, rfl⟩
  go_wp2_with fail
  go_quiet ((go_at_call 32; exact quiet_drewN4 (hlen _ (((Mod.refl [] w).alloc _).drewN _))))
  obtain ⟨W, hW⟩ : ∃ W, (w.alloc (.cells #[.int .u8 dd, .int .i64 I, .int .u64 v] 51)).drewN nq = W := ⟨_, rfl⟩
  have hmW : Mod [] w W := hW ▸ ((Mod.refl [] w).alloc _).drewN _
  have hA : Blk W w.heap.size 51 #[.int .u8 dd, .int .i64 I, .int .u64 v] := hW ▸ (Blk.new w _ _).drewN _
  simp only [hW]
  clear hW hlen
  have a2 : W.cell? ⟨w.heap.size, 2, none⟩ = some (.int .u64 v) := hA.cell 2
  have al := hA.lt
  have HA := Hidden.mk hA
  clear hA
  have h := H.out.mod hmW (by simp)
  have hin : i ∈ s.free := List.mem_of_getLast? hf
  have hic := (h.wf.mem i).1 hin
  have hi : i < s.cells.length := (List.getElem?_eq_some_iff.1 hic).1
  have hflen : 0 < s.free.length := List.length_pos_of_mem hin
  have hvl := h.vlen
  have hiV : i < V.length := by omega
  obtain ⟨fg, fcap, rfl, f1, f2, f3, f4, f5, f6⟩ := h.free.at_ hflen
  obtain ⟨vg, vcap, rfl, v1, v2, v3, v4, v5, v6⟩ := h.vals.at_ (by omega)
  obtain ⟨lg, lcap, rfl, l1, l2, l3, l4, l5, l6⟩ := h.live.at_ (by omega)
  have hlast : W.cell? ⟨fg, s.free.length - 1, none⟩ = some (.int .i64 i) := by
    rw [f5 _ (by omega), List.getElem?_map]
    rw [List.getLast?_eq_getElem?] at hf
    rw [hf]; rfl
  have hcv : W.cell? ⟨vg, i, none⟩ = some (.int .u64 V[i]) := by rw [v5 i (by omega)]; exact icells_get (List.getElem?_eq_getElem hiV)
  have hcl : W.cell? ⟨lg, i, none⟩ = some (.bool false) := by rw [l5 i (by omega)]; simp [bcells, hic]
  have hfv := v6 i
  have hfl := l6 i
  have b0 : W.cell? ⟨xb, 0, none⟩ = some (.slice (some ⟨vg, 0, none⟩) V.length vcap) := h.blk.cell 0
  have bf0 := h.blk.frozen 0
  have b1 : W.cell? ⟨xb, 1, none⟩ = some (.slice (some ⟨lg, 0, none⟩) s.cells.length lcap) := h.blk.cell 1
  have bf1 := h.blk.frozen 1
  have b2 : W.cell? ⟨xb, 2, none⟩ = some (.slice (some ⟨fg, 0, none⟩) s.free.length fcap) := h.blk.cell 2
  have bf2 := h.blk.frozen 2
  have bl := h.blk.lt
  have hxv : xb ≠ vg := fun e => by have := h.vals.ty h.blk (by decide); rw [v1] at this; simp at this; exact this e
  have hxl : xb ≠ lg := fun e => by have := h.live.ty h.blk (by decide); rw [l1] at this; simp at this; exact this e
  have hxf : xb ≠ fg := fun e => by have := h.free.ty h.blk (by decide); rw [f1] at this; simp at this; exact this e
  have hvl' : vg ≠ lg := fun e => by have := h.live.ty2 h.vals (by decide) vg (by rw [v1]; simp); rw [l1] at this; simp at this; exact this e
  have hvf : vg ≠ fg := fun e => by have := h.free.ty2 h.vals (by decide) vg (by rw [v1]; simp); rw [f1] at this; simp at this; exact this e
  have hlf : lg ≠ fg := fun e => by have := h.free.ty2 h.live (by decide) lg (by rw [l1]; simp); rw [f1] at this; simp at this; exact this e
  have hax : w.heap.size ≠ xb := by have := H.out.blk.lt; omega
  have hav : w.heap.size ≠ vg := by have := H.out.vals.lt (k := vg) (by rw [v1]; simp); omega
  have hfn : s.free.length ≤ 1048576 := by omega
  have hi63 : (i : Int) ≤ 9223372036854775807 := by omega
  have het : s.take v = { s with cells := s.cells.set i (some v), free := s.free.dropLast } := by unfold PS.take; rw [hf]
  have HH := Hidden.mk (And.intro h (And.intro hmW (And.intro het (And.intro v1 (And.intro l1 f1)))))
  clear h hmW hic hin het hf v1 l1 f1 v5 l5 f5 v6 l6 f6 hvl
  go_wp2_with fail
  go_region
  all_goals
    go_wp2
    go_ret3
    obtain ⟨h, hmW, het, v1, l1, f1⟩ := HH.out
    have hcut := h.free.cut (k := s.free.length - 1) (by omega)
    rw [Nat.mul_one, ← List.map_take, ← List.dropLast_eq_take] at hcut
    refine ⟨rfl, _, V.set i v, ⟨.slice (some ⟨vg, 0, none⟩) V.length vcap, .slice (some ⟨lg, 0, none⟩) s.cells.length lcap, .slice (some ⟨fg, 0, none⟩) (s.free.length - 1) fcap, rfl, ?_, ?_, ?_, ?_, PS.take_wf h.wf hl'.out _, by rw [het]; simp [h.vlen], ?_⟩, ?_, fun k hk => .inl ?_⟩
    · rw [show (s.take v).limit = s.limit from by rw [het]]
      repeat (first | (with_reducible refine Blk.drew ?_) | (with_reducible refine Blk.drewN ?_ _) | (with_reducible refine Blk.far ?_ hxv _) | (with_reducible refine Blk.far ?_ hxl _))
      exact h.blk.set 2 _
    · rw [icells_set, List.length_set]
      repeat (first | (with_reducible refine Row.drew ?_) | (with_reducible refine Row.drewN ?_ _) | ((with_reducible refine Row.far ?_ ?_ _); rotate_left 1; (rw [v1]; first | simpa using Ne.symm hvl' | simpa using hxv)))
      refine Row.stored ?_ _ _
      refine Row.far h.vals ?_ _
      rw [v1]; simpa using hxv
    · have e : bcells ((s.take v).cells.map Option.isSome) = (bcells (s.cells.map Option.isSome)).set i (.bool true) := by rw [het]; simp only; rw [map_none_set, bcells_set]; rfl
      have e2 : (s.take v).cells.length = s.cells.length := by rw [het]; simp
      rw [e, e2]
      repeat (first | (with_reducible refine Row.drew ?_) | (with_reducible refine Row.drewN ?_ _))
      refine Row.stored ?_ _ _
      refine Row.far (Row.far h.live ?_ _) ?_ _
      · rw [l1]; simpa using hxl
      · rw [l1]; simpa using hvl'
    · have e : (s.take v).free = s.free.dropLast := by rw [het]
      have e2 : (s.take v).free.length = s.free.length - 1 := by rw [e]; simp
      rw [e2, e]
      have hrb : rb (.slice (some ⟨fg, 0, none⟩) (s.free.length - 1) fcap) = [fg] := rfl
      repeat (first | (with_reducible refine Row.drew ?_) | (with_reducible refine Row.drewN ?_ _) | ((with_reducible refine Row.far ?_ ?_ _); rotate_left 1; (rw [hrb]; first | simpa using hxf | simpa using hvf | simpa using hlf)))
      exact hcut
    · intro j y hy
      rw [het] at hy
      simp only [List.getElem?_set] at hy ⊢
      by_cases hij : i = j
      · subst hij; simp [hi] at hy; simp [hiV, hy]
      · rw [if_neg hij] at hy ⊢; exact h.vget j y hy
    · repeat (first | (with_reducible refine Mod.drew ?_) | (with_reducible refine Mod.drewN ?_ _) | ((with_reducible refine Mod.set ?_ ?_ _); rotate_left 1; (left; simp [rb, Value.ownBlock])))
      exact hmW.mono (by simp)
    · simpa [rb, Value.ownBlock] using hk
end Go.Proofs.Ytnbanbfnabhjjaa
