/- Texts joined: Xf1, Xf2, Xf3, Xf4, Xf5. -/
import Derived.Test.YtfioekkegihkoaaGXfM
import Derived.Laws.Bits64b
import Derived.Test.YtfioekkegihkoaaGHashB
import Derived.RegionCalls
import Derived.Test.YtfioekkegihkoaaChain4
set_option linter.unusedVariables false
set_option linter.unusedSimpArgs false
/- xfast: prefix, pack. -/
namespace Go.Proofs.Ytfioekkegihkoaa
open Go.RowKit
set_option linter.unusedVariables false
set_option linter.unusedSimpArgs false
set_option maxHeartbeats 400000 in
theorem xf_prefix {w : World} (k : Int) (b : Nat) (hk : 0 ≤ k ∧ k < 18446744073709551616) (hb : b ≤ 64) :
    Calls Try.prog 79 #[.int .u64 k, .int .i64 b] w fun e w' => e = .returned (keyV (b, pfx k b)) ∧ Mod [] w w' := by
  obtain ⟨hk0, hk1⟩ := hk
  have e1 : IntKind.u8.wrap (b : Int) = b := by rw [IntKind.wrap_u8]; omega
  have e2 : IntKind.i64.wrap (64 - (b : Int)) = 64 - b := IntWalk.i64_in _ (by omega)
  go_enter Try.func79, Try.ntmps79
  go_wp2_with fail
  refine bodyPost_ret (v := keyV (b, pfx k b)) (by simp [results, Try.results79, go_sem, keyV, pfx]) rfl ⟨rfl, ?_⟩
  exact (Mod.refl _ w).alloc _
theorem or_pack {x y : Int} (hx : 0 ≤ x ∧ x < 4294967296) (hy : 0 ≤ y ∧ y < 4294967296) : bits .or .u64 (x * 4294967296) y = packS (x, y) := by
  obtain ⟨a, rfl⟩ := Int.eq_ofNat_of_zero_le hx.1
  obtain ⟨b, rfl⟩ := Int.eq_ofNat_of_zero_le hy.1
  have h1 : (a : Int) * 4294967296 = ((a * 4294967296 : Nat) : Int) := by omega
  rw [h1, bits_or_u64_nat _ _ (by omega) (by omega)]
  have h2 : a * 4294967296 ||| b = a * 4294967296 + b := by
    have := Nat.shiftLeft_add_eq_or_of_lt (a := a) (b := b) (i := 32) (by omega)
    rw [Nat.shiftLeft_eq, show (2 : Nat) ^ 32 = 4294967296 from by decide] at this
    exact this.symm
  rw [h2]; unfold packS; simp only; omega
theorem and_low {x : Int} (hx : 0 ≤ x ∧ x < 18446744073709551616) : bits .and .u64 x 4294967295 = x % 4294967296 := by
  obtain ⟨a, rfl⟩ := Int.eq_ofNat_of_zero_le hx.1
  rw [show (4294967295 : Int) = ((4294967295 : Nat) : Int) from rfl, bits_and_u64_nat _ _ (by omega) (by decide)]
  have := Nat.and_two_pow_sub_one_eq_mod a 32
  rw [show (2 : Nat) ^ 32 - 1 = 4294967295 from by decide, show (2 : Nat) ^ 32 = 4294967296 from by decide] at this
  rw [this]; omega
set_option maxHeartbeats 400000 in
theorem xf_pack {w : World} (x y : Int) (hx : 0 ≤ x ∧ x < 1048576) (hy : 0 ≤ y ∧ y < 1048576) :
    Calls Try.prog 80 #[.agg #[.int .i64 x, .int .i64 y]] w fun e w' => e = .returned (.int .u64 (packS (x, y))) ∧ Mod [] w w' := by
  obtain ⟨hx0, hx1⟩ := hx
  obtain ⟨hy0, hy1⟩ := hy
  have e1 : IntKind.u64.wrap x = x := by rw [IntKind.wrap_u64]; omega
  have e2 : IntKind.u64.wrap y = y := by rw [IntKind.wrap_u64]; omega
  have e3 : IntKind.u64.wrap (x * 4294967296) = x * 4294967296 := by rw [IntKind.wrap_u64]; omega
  have e4 := or_pack (x := x) (y := y) ⟨hx0, by omega⟩ ⟨hy0, by omega⟩
  go_enter Try.func80, Try.ntmps80
  go_wp2_with fail
  go_ret
  exact ⟨rfl, (Mod.refl _ w).alloc _⟩
end Go.Proofs.Ytfioekkegihkoaa

/- xfast: find. -/
namespace Go.Proofs.Ytfioekkegihkoaa
open Go.RowKit
set_option linter.unusedVariables false
set_option linter.unusedSimpArgs false
def xfCells (mb tb cb : Nat) (limit : Nat) : Array Value := #[.pointer (some ⟨mb, 0, none⟩), .pointer (some ⟨tb, 0, none⟩), .pointer (some ⟨cb, 0, none⟩), .int .i64 limit]
theorem keyOK_pfx {k : Int} (hk : 0 ≤ k ∧ k < 18446744073709551616) {b : Nat} (hb : b ≤ 64) : KeyOK ((b : Int), pfx k b) := ⟨by simp only; omega, by simp only; omega, ⟨pfx_bnd hk b⟩⟩
set_option maxHeartbeats 1000000 in
theorem xf_find {w : World} {xb tb cb mb b0 limit : Nat} {FT : List Nat} {pr : Int} {l : List (HK × Int)} {m : Mt} {s : Option (Int × Int)} (k : Int) (b : Nat) (hk : 0 ≤ k ∧ k < 18446744073709551616) (hb : b ≤ 64)
    (hx : Blk w xb 81 (xfCells mb tb cb limit)) (ht : TabAt w tb mb FT b0 pr l) (hm : MeterAt w mb m) (hmF : mb ∉ FT)
    (hl : lk l ((b : Int), pfx k b) = s.map packS) (hs : ∀ q, s = some q → (0 ≤ q.1 ∧ q.1 < 1048576) ∧ (0 ≤ q.2 ∧ q.2 < 1048576)) :
    Calls Try.prog 57 #[.pointer (some ⟨xb, 0, none⟩), .int .u64 k, .int .i64 b] w fun e w' => e = .returned (.tuple #[.agg #[.int .i64 (s.getD (0, 0)).1, .int .i64 (s.getD (0, 0)).2], .bool s.isSome]) ∧
      ∃ pr', TabAt w' tb mb FT b0 pr' l ∧ MeterAt w' mb m.call ∧ Mod (mb :: FT) w w' := by
  have hlt := hx.lt
  have c1 : w.cell? ⟨xb, 1, none⟩ = some (.pointer (some ⟨tb, 0, none⟩)) := hx.cell 1
  have hmlt := hm.lt
  have hflt := ht.lt
  -- the value and its halves
  obtain ⟨V, x, y, hV, hx1, hy1, hxw, hyw, hsx⟩ : ∃ V x y : Int, (lk l ((b : Int), pfx k b)).getD 0 = V ∧ V / 4294967296 = x ∧ bits .and .u64 V 4294967295 = y ∧ (0 ≤ x ∧ x < 1048576) ∧ (0 ≤ y ∧ y < 1048576) ∧ s.getD (0, 0) = (x, y) := by
    rw [hl]
    cases s with
    | none => exact ⟨0, 0, 0, rfl, by decide, by decide, by omega, by omega, rfl⟩
    | some q =>
      obtain ⟨h1, h2⟩ := hs q rfl
      obtain ⟨g1, g2, g3, g4⟩ := pack_bnd h1 h2
      exact ⟨packS q, q.1, q.2, rfl, g1, by rw [and_low ⟨g3, by omega⟩, g2], h1, h2, rfl⟩
  have hV0 : 0 ≤ V := by
    cases s with
    | none => rw [hl] at hV; simp at hV; omega
    | some q =>
      obtain ⟨h1, h2⟩ := hs q rfl
      obtain ⟨g1, g2, g3, g4⟩ := pack_bnd h1 h2
      rw [hl] at hV; simp at hV; omega
  have hsi : (lk l ((b : Int), pfx k b)).isSome = s.isSome := by rw [hl]; cases s <;> rfl
  have e1 : IntKind.i64.wrap x = x := IntWalk.i64_in _ (by omega)
  have e2 : IntKind.i64.wrap y = y := IntWalk.i64_in _ (by omega)
  rw [hsx]
  have HP := Hidden.mk (fun W => xf_prefix (w := W) k b hk hb)
  have HG := Hidden.mk (fun W (hW : Mod [] w W) => hash_get ((b : Int), pfx k b) (keyOK_pfx hk hb) (ht.mod hW (by simp)) (hm.mod hW (by simp)) hmF)
  have HF := Hidden.mk (And.intro hV (And.intro hsi (And.intro hmlt hflt)))
  clear hx ht hm hl hs hV hsi hsx hk hxw hyw hflt
  generalize (lk l ((b : Int), pfx k b)).isSome = g1 at *
  generalize (lk l ((b : Int), pfx k b)).getD 0 = v1 at *
  obtain rfl : v1 = V := HF.out.1
  obtain rfl : g1 = s.isSome := HF.out.2.1
  generalize s.isSome = g at *
  have hm0 := Hidden.mk ((Mod.refl [] w).alloc (.cells #[.int .i64 0, .int .i64 0] 89))
  have KN : Hidden (∀ W, Mod (mb :: FT) (w.alloc (.cells #[.int .i64 0, .int .i64 0] 89)) W → Blk W w.heap.size 89 #[.int .i64 0, .int .i64 0]) := ⟨fun W hW =>
    (Blk.new w 89 #[.int .i64 0, .int .i64 0]).mod hW (fun hk => by
      rcases List.mem_cons.1 hk with h | h
      · omega
      · exact Nat.lt_irrefl _ (HF.out.2.2.2 _ h))⟩
  have HNF : Hidden (w.heap.size ∉ FT ∧ mb ≠ w.heap.size) := ⟨fun h => Nat.lt_irrefl _ (HF.out.2.2.2 _ h), by omega⟩
  go_enter Try.func57, Try.ntmps57
  go_wp2_with fail
  go_region_with (first | (go_at_call 79; refine (HP.out _).mono ?_; rintro e w3 ⟨rfl, hm3⟩; have H3 := Hidden.mk ((hm0.out.drew).trans hm3 (by simp)); have H3b := Hidden.mk (((Mod.refl (mb :: FT) _).drew).trans hm3 (by simp)); have c13 : w3.cell? ⟨xb, 1, none⟩ = some (.pointer (some ⟨tb, 0, none⟩)) := (Below.cell (p := ⟨xb, 1, none⟩) H3.out.below' hlt).trans c1; clear hm3) | (go_at_call 97; refine (HG.out _ H3.out).mono ?_; rintro e w4 ⟨rfl, pr4, ht4, hm4, hM4, _⟩; have H4 := Hidden.mk (And.intro ht4 (And.intro hm4 (H3b.out.trans hM4 (fun q hq => .inl hq)))); clear ht4 hm4 hM4) | (trace_state; fail))
  all_goals
    have hB := KN.out _ H4.out.2.2
    have kn0 : w4.cell? ⟨w.heap.size, 0, none⟩ = some (.int .i64 0) := hB.cell 0
    have kn1 : w4.cell? ⟨w.heap.size, 1, none⟩ = some (.int .i64 0) := hB.cell 1
    have knf0 := hB.frozen 0
    have knf1 := hB.frozen 1
    have knl := hB.lt
    have HB5 : Hidden (Blk ((w4.setCell ⟨w.heap.size, 0, none⟩ (.int .i64 x)).setCell ⟨w.heap.size, 1, none⟩ (.int .i64 y)) w.heap.size 89 #[.int .i64 x, .int .i64 y]) := ⟨(hB.set 0 (.int .i64 x)).set 1 (.int .i64 y)⟩
    have HM5 : Hidden (Mod [w.heap.size] w4 ((w4.setCell ⟨w.heap.size, 0, none⟩ (.int .i64 x)).setCell ⟨w.heap.size, 1, none⟩ (.int .i64 y))) := ⟨((Mod.refl _ w4).set (p := ⟨w.heap.size, 0, none⟩) (.inl (by simp)) _).set (p := ⟨w.heap.size, 1, none⟩) (.inl (by simp)) _⟩
    clear hB
    go_wp2_with fail
    have r0 := HB5.out.cell 0
    have r1 := HB5.out.cell 1
    simp only [List.getElem?_toArray, List.getElem?_cons_zero, List.getElem?_cons_succ] at r0 r1
    refine bodyPost_ret (v := .tuple #[.agg #[.int .i64 x, .int .i64 y], .bool g]) (by simp [results, Try.results57, go_sem, r0, r1]) rfl ⟨rfl, _, H4.out.1.mod HM5.out (fun q hq => by rw [List.mem_singleton.1 hq]; exact HNF.out.1), H4.out.2.1.mod HM5.out (by simpa using HNF.out.2), ?_⟩
    exact (((Mod.refl (mb :: FT) w).alloc _).trans H4.out.2.2 (fun q hq => .inl hq)).trans HM5.out (fun q hq => .inr (by rw [List.mem_singleton.1 hq]; exact Nat.le_refl _))
end Go.Proofs.Ytfioekkegihkoaa

/- xfast: the structure in memory; longest. -/
namespace Go.Proofs.Ytfioekkegihkoaa
open Go.RowKit
set_option linter.unusedVariables false
set_option linter.unusedSimpArgs false
/-- The parts of an x-fast trie: its own block, its table, its links. -/
structure XfIn (w : World) (xb tb cb mb b0 limit : Nat) (FT FC : List Nat) (pr : Int) (fr : Bool) (l : List (HK × Int)) (L : CL) : Prop where
  blk : Blk w xb 81 (xfCells mb tb cb limit)
  tab : TabAt w tb mb FT b0 pr l
  chn : ChainAt w cb mb FC limit fr L
  xFT : xb ∉ FT
  xFC : xb ∉ FC
  tc : ∀ k ∈ FT, k ∉ FC
/-- The trie at xb: its keys, with their links. -/
def XfAt (w : World) (xb mb : Nat) (F : List Nat) (limit : Nat) (L : CL) : Prop := ∃ tb cb b0 FT FC pr l, F = xb :: (FT ++ FC) ∧ XfIn w xb tb cb mb b0 limit FT FC pr false l L ∧ XT L l ∧ L.Pairwise (fun e f => e.2 < f.2) ∧ (∀ e ∈ L, 0 ≤ e.2 ∧ e.2 < 18446744073709551616) ∧ l.length + L.length ≤ limit
section
variable {w w' : World} {xb tb cb mb b0 limit : Nat} {FT FC F : List Nat} {pr : Int} {fr : Bool} {l : List (HK × Int)} {L : CL}
theorem XfIn.mod (h : XfIn w xb tb cb mb b0 limit FT FC pr fr l L) {S : List Nat} (hm : Mod S w w') (hS : ∀ k ∈ S, k ∉ xb :: (FT ++ FC)) : XfIn w' xb tb cb mb b0 limit FT FC pr fr l L :=
  ⟨h.blk.mod hm (fun hk => hS _ hk (by simp)), h.tab.mod hm (fun k hk hk' => hS k hk (by simp [hk'])), h.chn.mod hm (fun k hk hk' => hS k hk (by simp [hk'])), h.xFT, h.xFC, h.tc⟩
/-- Where the table's places alone were looked at. -/
theorem XfIn.looked {m' : Mt} {pr' : Int} (h : XfIn w xb tb cb mb b0 limit FT FC pr fr l L) (hmb : mb ∉ xb :: (FT ++ FC)) (ht : TabAt w' tb mb FT b0 pr' l) (hm : Mod (mb :: FT) w w') : XfIn w' xb tb cb mb b0 limit FT FC pr' fr l L := by
  simp only [List.mem_cons, List.mem_append, not_or] at hmb
  refine ⟨h.blk.mod hm (fun hk => ?_), ht, h.chn.mod hm (fun k hk hk' => ?_), h.xFT, h.xFC, h.tc⟩
  · rcases List.mem_cons.1 hk with hk | hk
    · exact hmb.1 hk.symm
    · exact h.xFT hk
  · rcases List.mem_cons.1 hk with rfl | hk
    · exact hmb.2.2 hk'
    · exact h.tc k hk hk'
theorem XfAt.mod (h : XfAt w xb mb F limit L) {S : List Nat} (hm : Mod S w w') (hS : ∀ k ∈ S, k ∉ F) : XfAt w' xb mb F limit L := by
  obtain ⟨tb, cb, b0, FT, FC, pr, l, rfl, h1, h2⟩ := h
  exact ⟨tb, cb, b0, FT, FC, pr, l, rfl, h1.mod hm hS, h2⟩
theorem XfAt.lt (h : XfAt w xb mb F limit L) : ∀ k ∈ F, k < w.heap.size := by
  obtain ⟨tb, cb, b0, FT, FC, pr, l, rfl, h1, h2⟩ := h
  intro k hk
  simp only [List.mem_cons, List.mem_append] at hk
  rcases hk with rfl | hk | hk
  · exact h1.blk.lt
  · exact h1.tab.lt k hk
  · exact h1.chn.lt k hk
theorem XfAt.head (h : XfAt w xb mb F limit L) : xb ∈ F := by obtain ⟨tb, cb, b0, FT, FC, pr, l, rfl, h1, h2⟩ := h; simp
theorem XfIn.xl (h : XfIn w xb tb cb mb b0 limit FT FC pr fr l L) (h1 : L.Pairwise (fun e f => e.2 < f.2)) (h2 : ∀ e ∈ L, 0 ≤ e.2 ∧ e.2 < 18446744073709551616) : XL L := ⟨h1, h.chn.nodup, h2, h.chn.place⟩
end
/-- The meter's count, so long as it is small. -/
theorem Mt.call_taken {m : Mt} {c : Nat} (h : m.taken = c) (hc : c ≤ 1000000) : m.call.taken = (c + 1 : Nat) := by
  show wrap64 (m.taken + 1) = _
  rw [h]; unfold wrap64; omega
theorem Mt.read_taken {m : Mt} {c : Nat} (h : m.taken = c) (hc : c ≤ 1000000) : m.read.taken = (c + 1 : Nat) := by
  show wrap64 (m.taken + 1) = _
  rw [h]; unfold wrap64; omega
/-- What longest finds. -/
def LongPost (w : World) (xb tb cb mb b0 limit : Nat) (FT FC : List Nat) (fr : Bool) (l : List (HK × Int)) (L : CL) (k : Int) (c0 : Nat) (e : Ending) (w' : World) : Prop :=
  ∃ (z : Int) (s : Int × Int), e = .returned (.tuple #[.int .i64 z, .agg #[.int .i64 s.1, .int .i64 s.2]]) ∧ IsLong L k z ∧ (z = -1 → s = (-1, -1)) ∧ (∀ b : Nat, (b : Int) = z → spn L b (pfx k b) = some s) ∧
    ∃ pr' m c, XfIn w' xb tb cb mb b0 limit FT FC pr' fr l L ∧ MeterAt w' mb m ∧ m.taken = (c : Nat) ∧ c ≤ c0 + 7 ∧ Mod (mb :: FT) w w'
set_option maxHeartbeats 2000000 in
set_option maxRecDepth 100000 in
theorem xf_longest {w : World} {xb tb cb mb b0 limit : Nat} {FT FC : List Nat} {pr : Int} {fr : Bool} {l : List (HK × Int)} {L : CL} {m : Mt} {c0 : Nat} (k : Int) (hk : 0 ≤ k ∧ k < 18446744073709551616)
    (h : XfIn w xb tb cb mb b0 limit FT FC pr fr l L) (hx : XL L) (ht : XT L l) (hm : MeterAt w mb m) (hmb : mb ∉ xb :: (FT ++ FC)) (hc : m.taken = (c0 : Nat)) (hc0 : c0 ≤ 10000) :
    Calls Try.prog 58 #[.pointer (some ⟨xb, 0, none⟩), .int .u64 k] w (LongPost w xb tb cb mb b0 limit FT FC fr l L k c0) := by
  have HX := Hidden.mk (And.intro hx (And.intro ht (And.intro hk hmb)))
  have H0 := Hidden.mk (And.intro h (And.intro hm hc))
  clear h hx ht hm hc hk hmb
  go_enter Try.func58, Try.ntmps58
  have HN0 : Hidden (Blk ((w.alloc (.cells #[.int .i64 0, .int .i64 0] 89)).alloc (.cells #[.int .i64 (-1), .int .i64 (-1)] 89)) w.heap.size 89 #[.int .i64 0, .int .i64 0]) := ⟨(Blk.new w _ _).alloc _⟩
  have HN1 : Hidden (Blk ((w.alloc (.cells #[.int .i64 0, .int .i64 0] 89)).alloc (.cells #[.int .i64 (-1), .int .i64 (-1)] 89)) (w.heap.size + 1) 89 #[.int .i64 (-1), .int .i64 (-1)]) := ⟨Blk.new' (by simp) _ _⟩
  have HM0 := Hidden.mk (((Mod.refl (mb :: FT) w).alloc (.cells #[.int .i64 0, .int .i64 0] 89)).alloc (.cells #[.int .i64 (-1), .int .i64 (-1)] 89))
  have HNB : Hidden (w.heap.size ∉ mb :: FT ∧ w.heap.size + 1 ∉ mb :: FT ∧ w.heap.size ∉ xb :: (FT ++ FC) ∧ w.heap.size + 1 ∉ xb :: (FT ++ FC) ∧ mb ≠ w.heap.size + 1 ∧ mb ∉ FT) := ⟨by
    have h1 := H0.out.2.1.lt
    have h2 := H0.out.1.tab.lt
    have h3 := H0.out.1.chn.lt
    have h4 := H0.out.1.blk.lt
    have h5 := HX.out.2.2.2
    simp only [List.mem_cons, List.mem_append, not_or] at h5 ⊢
    exact ⟨⟨by omega, fun h => by have := h2 _ h; omega⟩, ⟨by omega, fun h => by have := h2 _ h; omega⟩, ⟨by omega, fun h => by have := h2 _ h; omega, fun h => by have := h3 _ h; omega⟩, ⟨by omega, fun h => by have := h2 _ h; omega, fun h => by have := h3 _ h; omega⟩, by omega, h5.2.1⟩⟩
  go_wp2_with fail
  go_loopw [6, 8, 9] (fun v6 v8 v9 wr => ∃ (z hi : Int) (s : Int × Int) (j n : Nat) (m' : Mt) (pr' : Int), v6 = .int .i64 z ∧ v8 = .int .i64 (z + 1) ∧ v9 = .int .i64 hi ∧ -1 ≤ z ∧ hi ≤ 64 ∧ z + 1 + n = hi + 1 ∧ n * 2 ^ j < 128 ∧ j ≤ 7 ∧
    (z = -1 → s = (-1, -1)) ∧ (∀ b : Nat, (b : Int) = z → spn L b (pfx k b) = some s) ∧ (∀ b : Nat, b ≤ 64 → hi < b → msk L b (pfx k b) = []) ∧
    Blk wr w.heap.size 89 #[.int .i64 0, .int .i64 0] ∧ Blk wr (w.heap.size + 1) 89 #[.int .i64 s.1, .int .i64 s.2] ∧ XfIn wr xb tb cb mb b0 limit FT FC pr' fr l L ∧ MeterAt wr mb m' ∧ m'.taken = ((c0 + j : Nat) : Int) ∧ Mod (mb :: FT) w wr) (fun _ v8 v9 _ => (intOf v9 + 1 - intOf v8).toNat)
  case atStart => exact ⟨-1, 64, (-1, -1), 0, 65, m, pr, rfl, rfl, rfl, by omega, by omega, by omega, by decide, by omega, fun _ => rfl, fun b hb => by omega, fun b h1 h2 => by omega, HN0.out, HN1.out, H0.out.1.mod (((Mod.refl [] w).alloc _).alloc _) (by simp), H0.out.2.1.mod (((Mod.refl [] w).alloc _).alloc _) (by simp), H0.out.2.2, HM0.out⟩
  case round =>
    obtain ⟨z, hi, s, j, n, m', pr', rfl, rfl, rfl, hz, hhi, hn, hnj, hj7, hs1, hs2, hs3, hB0, hB1, hI, hM, htk, hmod⟩ := hrel
    have hw1 : IntKind.i64.wrap (z + 1 + hi) = z + 1 + hi := IntWalk.i64_in _ (by omega)
    by_cases hlt : z + 1 ≤ hi
    · have hltd : decide (z + 1 ≤ hi) = true := decide_eq_true hlt
      obtain ⟨b, hb⟩ := Int.eq_ofNat_of_zero_le (show 0 ≤ (z + 1 + hi) / 2 by omega)
      have hb64 : b ≤ 64 := by omega
      have hbt : Int.tdiv (z + 1 + hi) 2 = b := by rw [Int.tdiv_eq_ediv_of_nonneg (by omega)]; exact hb
      have hj6 : j ≤ 6 := by
        rcases Nat.lt_or_ge 6 j with hj | hj
        · have h7 : j = 7 := by omega
          subst h7
          have : 1 * 2 ^ 7 ≤ n * 2 ^ 7 := Nat.mul_le_mul_right _ (by omega)
          omega
        · exact hj
      have hhalf : ∀ n', 2 * n' ≤ n → n' * 2 ^ (j + 1) < 128 := fun n' hn' => by
        rw [Nat.pow_succ]
        have h1 : (2 * n') * 2 ^ j ≤ n * 2 ^ j := Nat.mul_le_mul_right _ hn'
        have h2 : n' * (2 ^ j * 2) = (2 * n') * 2 ^ j := by rw [Nat.mul_comm (2 ^ j) 2, ← Nat.mul_assoc, Nat.mul_comm n' 2]
        omega
      have hw2 : IntKind.i64.wrap ((b : Int) - 1) = b - 1 := IntWalk.i64_in _ (by omega)
      have hw3 : IntKind.i64.wrap ((b : Int) + 1) = b + 1 := IntWalk.i64_in _ (by omega)
      have HT := Hidden.mk (Mt.call_taken htk (by omega))
      have HF := Hidden.mk (xf_find k b HX.out.2.2.1 hb64 hI.blk hI.tab hM HNB.out.2.2.2.2.2 (HX.out.2.1.get hb64 _) (fun q hq => spn_bnd HX.out.1 hq))
      have HR := Hidden.mk (And.intro hs1 (And.intro hs2 hs3))
      have HW := Hidden.mk (And.intro hB0 (And.intro hB1 (And.intro hI hmod)))
      have HH := Hidden.mk hhalf
      have HN := Hidden.mk (And.intro hnj hj6)
      clear hs1 hs2 hs3 hB0 hB1 hI hM htk hmod hhalf hnj hj7 hj6
      cases hsp : spn L b (pfx k b) with
      | none =>
        rw [hsp] at HF
        have HMN := Hidden.mk (spn_none.1 hsp)
        clear hsp
        go_wp2_with fail
        refine HF.out.mono ?_
        rintro e w4 ⟨rfl, pr4, ht4, hm4, hM4⟩
        have H4 := Hidden.mk (And.intro (HW.out.2.2.1.looked (m' := m') HX.out.2.2.2 ht4 hM4) (And.intro hm4 (And.intro (HW.out.1.mod hM4 HNB.out.1) (And.intro (HW.out.2.1.mod hM4 HNB.out.2.1) (HW.out.2.2.2.trans hM4 (fun q hq => .inl hq))))))
        clear ht4 hm4 hM4 HF HW
        simp only [Option.getD_none, Option.isSome_none]
        go_wp2_with fail
        go_roundw
        case rel =>
          have ha := (Mod.refl [] w4).alloc (.cells #[.int .i64 0, .int .i64 0] 89)
          refine ⟨z, b - 1, s, j + 1, (b : Int).toNat - (z + 1).toNat, _, pr4, rfl, rfl, rfl, hz, by omega, by omega, HH.out _ (by omega), by have := HN.out.2; omega, HR.out.1, HR.out.2.1, fun c hc1 hc2 => ?_, H4.out.2.2.1.mod ha (by simp), H4.out.2.2.2.1.mod ha (by simp), H4.out.1.mod ha (by simp), H4.out.2.1.mod ha (by simp), HT.out, H4.out.2.2.2.2.trans ha (by simp)⟩
          exact Classical.byContradiction (fun hh => msk_mono (show b ≤ c by omega) hc1 hh HMN.out)
        case measure => simp [intOf]; omega
      | some q =>
        rw [hsp] at HF
        have HSP := Hidden.mk hsp
        clear hsp
        obtain ⟨x, y⟩ := q
        go_wp2_with fail
        refine HF.out.mono ?_
        rintro e w4 ⟨rfl, pr4, ht4, hm4, hM4⟩
        have H4 := Hidden.mk (And.intro (HW.out.2.2.1.looked (m' := m') HX.out.2.2.2 ht4 hM4) (And.intro hm4 (And.intro (HW.out.1.mod hM4 HNB.out.1) (And.intro (HW.out.2.1.mod hM4 HNB.out.2.1) (HW.out.2.2.2.trans hM4 (fun q hq => .inl hq))))))
        clear ht4 hm4 hM4 HF HW
        have d0 : w4.cell? ⟨w.heap.size + 1, 0, none⟩ = some (.int .i64 s.1) := H4.out.2.2.2.1.cell 0
        have d1 : w4.cell? ⟨w.heap.size + 1, 1, none⟩ = some (.int .i64 s.2) := H4.out.2.2.2.1.cell 1
        have df0 := H4.out.2.2.2.1.frozen 0
        have df1 := H4.out.2.2.2.1.frozen 1
        have dl := H4.out.2.2.2.1.lt
        simp only [Option.getD_some, Option.isSome_some]
        go_wp2_with fail
        go_region
        go_roundw
        case rel =>
          have ha : Mod [w.heap.size + 1] w4 ((((w4.setCell ⟨w.heap.size + 1, 0, none⟩ (.int .i64 x)).setCell ⟨w.heap.size + 1, 1, none⟩ (.int .i64 y)).alloc (.cells #[.int .i64 x, .int .i64 y] 89)).drew) := ((((Mod.refl _ w4).set (p := ⟨w.heap.size + 1, 0, none⟩) (.inl (by simp)) _).set (p := ⟨w.heap.size + 1, 1, none⟩) (.inl (by simp)) _).alloc _).drew
          have hb1 := (((H4.out.2.2.2.1.set 0 (.int .i64 x)).set 1 (.int .i64 y)).alloc (.cells #[.int .i64 x, .int .i64 y] 89)).drew
          have hc2 : ∀ c : Nat, (c : Int) = (b : Int) → spn L c (pfx k c) = some (x, y) := fun c hc => by
            have : c = b := by omega
            subst this; exact HSP.out
          (repeat apply Exists.intro)
          exact ⟨⟨b, hi, (x, y), j + 1, hi.toNat - b, _, pr4, rfl, rfl, rfl, by omega, hhi, by omega, HH.out _ (by omega), by have := HN.out.2; omega, fun h => by omega, hc2, HR.out.2.2, H4.out.2.2.1.mod ha (by simp), hb1, H4.out.1.mod ha (fun q hq => by rw [List.mem_singleton.1 hq]; exact HNB.out.2.2.2.1), H4.out.2.1.mod ha (by simpa using HNB.out.2.2.2.2.1), HT.out, H4.out.2.2.2.2.trans ha (fun q hq => .inr (by rw [List.mem_singleton.1 hq]; omega))⟩, rfl⟩
        case measure => simp [intOf]; omega
    · have hltd : decide (z + 1 ≤ hi) = false := decide_eq_false hlt
      have e : z = hi := by omega
      subst e
      have HR := Hidden.mk (And.intro hs1 (And.intro hs2 hs3))
      have HW := Hidden.mk (And.intro hB0 (And.intro hB1 (And.intro hI (And.intro hM (And.intro htk hmod)))))
      have d0 : wr.cell? ⟨w.heap.size + 1, 0, none⟩ = some (.int .i64 s.1) := hB1.cell 0
      have d1 : wr.cell? ⟨w.heap.size + 1, 1, none⟩ = some (.int .i64 s.2) := hB1.cell 1
      have g0 : wr.cell? ⟨w.heap.size, 0, none⟩ = some (.int .i64 0) := hB0.cell 0
      have g1 : wr.cell? ⟨w.heap.size, 1, none⟩ = some (.int .i64 0) := hB0.cell 1
      have gf0 := hB0.frozen 0
      have gf1 := hB0.frozen 1
      have gl := hB0.lt
      have hne : w.heap.size ≠ w.heap.size + 1 := by omega
      obtain ⟨x, y⟩ := s
      have HZ := Hidden.mk (And.intro hz (And.intro hhi hj7))
      clear hs1 hs2 hs3 hB0 hB1 hI hM htk hmod hn hnj hj7 hz hhi hlt hw1
      have HB5 : Hidden (Blk (((wr.setCell ⟨w.heap.size, 0, none⟩ (.int .i64 x)).setCell ⟨w.heap.size, 1, none⟩ (.int .i64 y)).drew) w.heap.size 89 #[.int .i64 x, .int .i64 y]) := ⟨((HW.out.1.set 0 (.int .i64 x)).set 1 (.int .i64 y)).drew⟩
      have HM5 : Hidden (Mod [w.heap.size] wr (((wr.setCell ⟨w.heap.size, 0, none⟩ (.int .i64 x)).setCell ⟨w.heap.size, 1, none⟩ (.int .i64 y)).drew)) := ⟨(((Mod.refl _ wr).set (p := ⟨w.heap.size, 0, none⟩) (.inl (by simp)) _).set (p := ⟨w.heap.size, 1, none⟩) (.inl (by simp)) _).drew⟩
      go_wp2_with fail
      go_region
      all_goals
        go_wp2_with fail
        have r0 := HB5.out.cell 0
        have r1 := HB5.out.cell 1
        simp only [List.getElem?_toArray, List.getElem?_cons_zero, List.getElem?_cons_succ] at r0 r1
        refine bodyPost_ret (v := .tuple #[.int .i64 z, .agg #[.int .i64 x, .int .i64 y]]) (by simp [results, Try.results58, go_sem, r0, r1]) rfl ?_
        refine ⟨z, (x, y), rfl, ⟨HZ.out.1, HZ.out.2.1, fun c hc => ⟨fun hcz => ?_, fun hne => ?_⟩⟩, HR.out.1, HR.out.2.1, _, _, _, HW.out.2.2.1.mod HM5.out (fun q hq => by rw [List.mem_singleton.1 hq]; exact HNB.out.2.2.1), HW.out.2.2.2.1.mod HM5.out (fun hq => HNB.out.1 (by rw [← List.mem_singleton.1 hq]; simp)), HW.out.2.2.2.2.1, by have := HZ.out.2.2; omega, HW.out.2.2.2.2.2.trans HM5.out (fun q hq => .inr (by rw [List.mem_singleton.1 hq]; exact Nat.le_refl _))⟩
        · have h1 := HR.out.2.1 z.toNat (by omega)
          have h2 : msk L z.toNat (pfx k z.toNat) ≠ [] := fun hh => by rw [spn_none.2 hh] at h1; cases h1
          exact msk_mono (by omega) (by have := HZ.out.2.1; omega) h2
        · rcases Int.lt_or_le z c with h | h
          · exact absurd (HR.out.2.2 c hc h) hne
          · exact h
end Go.Proofs.Ytfioekkegihkoaa

/- xfast: start, Has, longest's users. -/
namespace Go.Proofs.Ytfioekkegihkoaa
open Go.RowKit
set_option linter.unusedVariables false
set_option linter.unusedSimpArgs false
set_option maxHeartbeats 400000 in
theorem meter_start (mb : Nat) (m : Mt) (w : World) (h : MeterAt w mb m) :
    Calls Try.prog 96 #[.pointer (some ⟨mb, 0, none⟩)] w fun e w' => e = .returned (.tuple #[]) ∧ MeterAt w' mb m.start ∧ Mod [mb] w w' := by
  have h2 := h.c2
  have h4 := h.c4
  have f2 := h.fr 2
  have f4 := h.fr 4
  have key : Hidden (MeterAt ((w.setCell ⟨mb, 2, none⟩ (.int .i64 0)).setCell ⟨mb, 4, none⟩ (.int .i64 (wrap64 (m.starts + 1)))) mb m.start) := ⟨(Blk.set h 2 _).set 4 _⟩
  have kmod := Hidden.mk (((Mod.refl [mb] w).set (p := ⟨mb, 2, none⟩) (.inl (by simp)) (.int .i64 0)).set (p := ⟨mb, 4, none⟩) (.inl (by simp)) (.int .i64 (wrap64 (m.starts + 1))))
  clear h
  go_enter Try.func96, Try.ntmps96
  go_wp2
  go_end0
  exact ⟨rfl, key.out, kmod.out⟩
section
variable {w : World} {xb tb cb mb b0 limit : Nat} {FT FC : List Nat} {pr : Int} {fr : Bool} {l : List (HK × Int)} {L : CL} {m : Mt}
/-- What a call that only looks leaves: at most so many steps. -/
def RdX (w : World) (xb tb cb mb b0 limit : Nat) (FT FC : List Nat) (fr : Bool) (l : List (HK × Int)) (L : CL) (c1 : Nat) (w' : World) : Prop :=
  ∃ pr' m c, XfIn w' xb tb cb mb b0 limit FT FC pr' fr l L ∧ MeterAt w' mb m ∧ m.taken = (c : Nat) ∧ c ≤ c1 ∧ Mod (mb :: FT) w w'
theorem RdX.mono {w' : World} {c1 c2 : Nat} (h : RdX w xb tb cb mb b0 limit FT FC fr l L c1 w') (hc : c1 ≤ c2) : RdX w xb tb cb mb b0 limit FT FC fr l L c2 w' := by
  obtain ⟨pr', m, c, h1, h2, h3, h4, h5⟩ := h; exact ⟨pr', m, c, h1, h2, h3, Nat.le_trans h4 hc, h5⟩
theorem RdX.trans {w0 w' : World} {c1 : Nat} (h : RdX w xb tb cb mb b0 limit FT FC fr l L c1 w') (hm : Mod (mb :: FT) w0 w) : RdX w0 xb tb cb mb b0 limit FT FC fr l L c1 w' := by
  obtain ⟨pr', m, c, h1, h2, h3, h4, h5⟩ := h; exact ⟨pr', m, c, h1, h2, h3, h4, hm.trans h5 (fun q hq => .inl hq)⟩
theorem RdX.news {w' w2 : World} {c1 : Nat} (h : RdX w xb tb cb mb b0 limit FT FC fr l L c1 w') (hm : Mod [] w' w2) : RdX w xb tb cb mb b0 limit FT FC fr l L c1 w2 := by
  obtain ⟨pr', m, c, h1, h2, h3, h4, h5⟩ := h; exact ⟨pr', m, c, h1.mod hm (by simp), h2.mod hm (by simp), h3, h4, h5.trans hm (by simp)⟩
set_option maxHeartbeats 1000000 in
theorem xf_start (h : XfIn w xb tb cb mb b0 limit FT FC pr fr l L) (hm : MeterAt w mb m) (hmb : mb ∉ xb :: (FT ++ FC)) :
    Calls Try.prog 56 #[.pointer (some ⟨xb, 0, none⟩)] w fun e w' => e = .returned (.bool (decide (0 < L.length))) ∧ XfIn w' xb tb cb mb b0 limit FT FC pr fr l L ∧ MeterAt w' mb m.start ∧ Mod [mb] w w' := by
  have HS := Hidden.mk (meter_start mb m w hm)
  have hne : mb ≠ xb ∧ mb ∉ FT ∧ mb ∉ FC := by simpa using hmb
  have c0 : w.cell? ⟨xb, 0, none⟩ = some (.pointer (some ⟨mb, 0, none⟩)) := h.blk.cell 0
  have H := Hidden.mk (And.intro h (And.intro hmb hne))
  have hlt := h.blk.lt
  clear h hm hmb hne
  go_enter Try.func56, Try.ntmps56
  go_wp2_with fail
  refine HS.out.mono ?_
  rintro e w2 ⟨rfl, hm2, hM2⟩
  have H2 := Hidden.mk (And.intro (H.out.1.mod hM2 (fun q hq => by rw [List.mem_singleton.1 hq]; exact H.out.2.1)) (And.intro hm2 hM2))
  have c2 : w2.cell? ⟨xb, 2, none⟩ = some (.pointer (some ⟨cb, 0, none⟩)) := H2.out.1.blk.cell 2
  have hl2 := H2.out.1.blk.lt
  have HL := Hidden.mk (chain_len H2.out.1.chn)
  clear hm2 hM2 HS
  go_wp2_with fail
  refine HL.out.mono ?_
  rintro e w3 ⟨rfl, rfl⟩
  clear HL
  obtain ⟨n, hn⟩ : ∃ n, L.length = n := ⟨_, rfl⟩
  rw [hn]
  have HN := Hidden.mk hn
  clear hn
  go_wp2_with fail
  go_ret
  exact ⟨by have := HN.out; simp [this], H2.out⟩
set_option maxHeartbeats 1000000 in
theorem xf_has (k : Int) (hk : 0 ≤ k ∧ k < 18446744073709551616) (h : XfIn w xb tb cb mb b0 limit FT FC pr fr l L) (hx : XL L) (ht : XT L l) (hm : MeterAt w mb m) (hmb : mb ∉ xb :: (FT ++ FC)) :
    Calls Try.prog 15 #[.pointer (some ⟨xb, 0, none⟩), .int .u64 k] w fun e w' => e = .returned (.bool (decide (k ∈ keysC L))) ∧ RdX w xb tb cb mb b0 limit FT FC fr l L 1 w' := by
  have HS := Hidden.mk (xf_start h hm hmb)
  have hne : mb ≠ xb ∧ mb ∉ FT ∧ mb ∉ FC := by simpa using hmb
  have H := Hidden.mk (And.intro hx (And.intro ht (And.intro hk (And.intro hne hmb))))
  clear h hx ht hm hmb hne hk
  go_enter Try.func15, Try.ntmps15
  go_wp2_with fail
  refine HS.out.mono ?_
  rintro e w2 ⟨rfl, hI2, hm2, hM2⟩
  have H2 := Hidden.mk (And.intro hI2 (And.intro hm2 (hM2.mono (T := mb :: FT) (fun q hq => .inl (by rw [List.mem_singleton.1 hq]; simp)))))
  clear hI2 hm2 hM2 HS
  rcases Nat.eq_zero_or_pos L.length with h0 | h0
  · have hd : decide (0 < L.length) = false := decide_eq_false (by omega)
    have HE := Hidden.mk (show decide (k ∈ keysC L) = false from by rw [List.eq_nil_of_length_eq_zero h0]; simp [keysC])
    rw [hd]
    clear h0 hd
    go_wp2_with fail
    go_ret
    exact ⟨by rw [HE.out]; rfl, _, _, 0, H2.out.1, H2.out.2.1, rfl, by omega, H2.out.2.2⟩
  · have hd : decide (0 < L.length) = true := decide_eq_true h0
    rw [hd]
    have HF := Hidden.mk (xf_find k 64 H.out.2.2.1 (Nat.le_refl _) H2.out.1.blk H2.out.1.tab H2.out.2.1 H.out.2.2.2.1.2.1 (H.out.2.1.get (Nat.le_refl _) _) (fun q hq => spn_bnd H.out.1 hq))
    have HE := Hidden.mk (show (spn L 64 (pfx k 64)).isSome = decide (k ∈ keysC L) from by
      rw [Bool.eq_iff_iff, decide_eq_true_iff, keysC_mem, Option.isSome_iff_ne_none, ne_eq, spn_none, pfx_all]
      constructor
      · intro hh
        obtain ⟨f, hf⟩ := List.exists_mem_of_ne_nil _ hh
        obtain ⟨hf1, hf2⟩ := msk_mem.1 hf
        rw [pfx_all] at hf2
        exact ⟨f, hf1, hf2⟩
      · rintro ⟨e, he, rfl⟩
        exact List.ne_nil_of_mem (msk_mem.2 ⟨he, pfx_all _⟩))
    clear h0 hd
    generalize spn L 64 (pfx k 64) = s at *
    go_wp2_with fail
    refine HF.out.mono ?_
    rintro e w4 ⟨rfl, pr4, ht4, hm4, hM4⟩
    have H4 := Hidden.mk (And.intro (H2.out.1.looked (m' := m) H.out.2.2.2.2 ht4 hM4) (And.intro hm4 (H2.out.2.2.trans hM4 (fun q hq => .inl hq))))
    clear ht4 hm4 hM4 HF
    rw [HE.out]
    generalize (s.getD (0, 0)).1 = x at *
    generalize (s.getD (0, 0)).2 = y at *
    obtain ⟨g, hg⟩ : ∃ g, decide (k ∈ keysC L) = g := ⟨_, rfl⟩
    rw [hg]
    have HG := Hidden.mk hg
    clear hg HE
    have ha : Hidden (Mod [] w4 (w4.alloc (.cells #[.int .i64 x, .int .i64 y] 89))) := ⟨(Mod.refl [] w4).alloc _⟩
    go_wp2_with fail
    go_ret
    exact ⟨by rw [HG.out]; rfl, _, _, 1, H4.out.1.mod ha.out (by simp), H4.out.2.1.mod ha.out (by simp), Mt.call_taken (c := 0) rfl (by omega), Nat.le_refl _, H4.out.2.2.trans ha.out (by simp)⟩
set_option maxHeartbeats 1000000 in
theorem xf_missing {c0 : Nat} (k : Int) (hk : 0 ≤ k ∧ k < 18446744073709551616) (h : XfIn w xb tb cb mb b0 limit FT FC pr fr l L) (hx : XL L) (ht : XT L l) (hm : MeterAt w mb m) (hmb : mb ∉ xb :: (FT ++ FC)) (hc : m.taken = (c0 : Nat)) (hc0 : c0 ≤ 10000) :
    Calls Try.prog 106 #[.pointer (some ⟨xb, 0, none⟩), .int .u64 k] w fun e w' => (∃ z, e = .returned (.int .i64 (64 - z)) ∧ IsLong L k z) ∧ RdX w xb tb cb mb b0 limit FT FC fr l L (c0 + 7) w' := by
  have HK := Hidden.mk (xf_longest k hk h hx ht hm hmb hc hc0)
  clear h hx ht hm hmb hk hc
  go_enter Try.func106, Try.ntmps106
  go_wp2_with fail
  refine HK.out.mono ?_
  rintro e w2 ⟨z, ⟨x, y⟩, rfl, hz, _, _, hr⟩
  have hzb : -1 ≤ z ∧ z ≤ 64 := ⟨hz.1, hz.2.1⟩
  have hw : IntKind.i64.wrap (64 - z) = 64 - z := IntWalk.i64_in _ (by omega)
  have HZ := Hidden.mk hz
  have HR : Hidden (RdX w xb tb cb mb b0 limit FT FC fr l L (c0 + 7) w2) := ⟨hr⟩
  have ha : Hidden (Mod [] w2 (w2.alloc (.cells #[.int .i64 x, .int .i64 y] 89))) := ⟨(Mod.refl [] w2).alloc _⟩
  clear hz hr HK
  go_wp2_with fail
  go_ret
  exact ⟨⟨z, rfl, HZ.out⟩, HR.out.news ha.out⟩
set_option maxHeartbeats 1000000 in
theorem xf_needs {c0 : Nat} (k : Int) (hk : 0 ≤ k ∧ k < 18446744073709551616) (h : XfIn w xb tb cb mb b0 limit FT FC pr fr l L) (hx : XL L) (ht : XT L l) (hm : MeterAt w mb m) (hmb : mb ∉ xb :: (FT ++ FC)) (hc : m.taken = (c0 : Nat)) (hc0 : c0 ≤ 10000) :
    Calls Try.prog 75 #[.pointer (some ⟨xb, 0, none⟩), .int .u64 k] w fun e w' => (∃ z, e = .returned (.int .i64 (if z = 64 then 0 else 65 - z)) ∧ IsLong L k z) ∧ RdX w xb tb cb mb b0 limit FT FC fr l L (c0 + 7) w' := by
  have HK := Hidden.mk (xf_missing k hk h hx ht hm hmb hc hc0)
  clear h hx ht hm hmb hk hc
  go_enter Try.func75, Try.ntmps75
  go_wp2_with fail
  refine HK.out.mono ?_
  rintro e w2 ⟨⟨z, rfl, hz⟩, hr⟩
  have hzb : -1 ≤ z ∧ z ≤ 64 := ⟨hz.1, hz.2.1⟩
  have hw : IntKind.i64.wrap (64 - z + 1) = 64 - z + 1 := IntWalk.i64_in _ (by omega)
  have HZ := Hidden.mk hz
  have HR : Hidden (RdX w xb tb cb mb b0 limit FT FC fr l L (c0 + 7) w2) := ⟨hr⟩
  clear hz hr HK
  by_cases h64 : z = 64
  · subst h64
    have hd : decide ((0 : Int) < 64 - 64) = false := by decide
    go_wp2_with fail
    go_ret
    exact ⟨⟨64, rfl, HZ.out⟩, HR.out⟩
  · have hd : decide (z < 64) = true := decide_eq_true (by omega)
    have HE := Hidden.mk (show 64 - z + 1 = (if z = 64 then 0 else 65 - z) from by rw [if_neg h64]; omega)
    clear h64
    go_wp2_with fail
    go_ret
    exact ⟨⟨z, by rw [← HE.out]; rfl, HZ.out⟩, HR.out⟩
end
end Go.Proofs.Ytfioekkegihkoaa

/- xfast: after, told, Next, Prev, Min, Max. -/
namespace Go.Proofs.Ytfioekkegihkoaa
open Go.RowKit
set_option linter.unusedVariables false
set_option linter.unusedSimpArgs false
theorem and_one {x : Int} (hx : 0 ≤ x ∧ x < 18446744073709551616) : bits .and .u64 x 1 = x % 2 := by
  obtain ⟨a, rfl⟩ := Int.eq_ofNat_of_zero_le hx.1
  rw [show (1 : Int) = ((1 : Nat) : Int) from rfl, bits_and_u64_nat _ _ (by omega) (by decide)]
  have := Nat.and_two_pow_sub_one_eq_mod a 1
  rw [show (2 : Nat) ^ 1 - 1 = 1 from by decide, show (2 : Nat) ^ 1 = 2 from by decide] at this
  rw [this]; omega
theorem bit_of {k : Int} (hk : 0 ≤ k ∧ k < 18446744073709551616) {b : Nat} (hb : b < 64) : bits .and .u64 (k / 2 ^ (63 - b)) 1 = pfx k (b + 1) % 2 := by
  have e : k / 2 ^ (63 - b) = pfx k (b + 1) := by unfold pfx; rw [show 64 - (b + 1) = 63 - b from by omega]
  rw [e, and_one (pfx_bnd hk _)]
section
variable {w : World} {xb tb cb mb b0 limit : Nat} {FT FC : List Nat} {pr : Int} {fr : Bool} {l : List (HK × Int)} {L A B : CL} {m : Mt}
theorem last_link {A : CL} (h : A ≠ []) : ∃ (A' : CL) (a : Nat) (k : Int), A = A' ++ [(a, k)] ∧ lsC A (-1) = a := by
  obtain ⟨C, e, hC⟩ : ∃ C e, A = C ++ [e] := ⟨A.dropLast, A.getLast h, (List.dropLast_concat_getLast h).symm⟩
  exact ⟨C, e.1, e.2, hC, by rw [hC]; exact lsC_snoc C e _⟩
theorem head_link {B : CL} (h : B ≠ []) : ∃ (B' : CL) (a : Nat) (k : Int), B = (a, k) :: B' ∧ hdC B (-1) = a := by
  cases B with
  | nil => exact absurd rfl h
  | cons e B => exact ⟨B, e.1, e.2, rfl, rfl⟩
theorem XfIn.read {w' : World} (h : XfIn w xb tb cb mb b0 limit FT FC pr fr l L) (hmb : mb ∉ xb :: (FT ++ FC)) (hM : Mod [mb] w w') : XfIn w' xb tb cb mb b0 limit FT FC pr fr l L :=
  h.mod hM (fun q hq => by rw [List.mem_singleton.1 hq]; exact hmb)
set_option maxHeartbeats 2000000 in
theorem xf_after {c0 : Nat} (k : Int) (hk : 0 ≤ k ∧ k < 18446744073709551616) (h : XfIn w xb tb cb mb b0 limit FT FC pr fr l (A ++ B)) (hx : XL (A ++ B)) (hA : ∀ e ∈ A, e.2 < k) (hB : ∀ e ∈ B, k < e.2) (ht : XT (A ++ B) l) (hm : MeterAt w mb m) (hmb : mb ∉ xb :: (FT ++ FC)) (hc : m.taken = (c0 : Nat)) (hc0 : c0 ≤ 10000) :
    Calls Try.prog 76 #[.pointer (some ⟨xb, 0, none⟩), .int .u64 k] w fun e w' => e = .returned (.int .i64 (lsC A (-1))) ∧ RdX w xb tb cb mb b0 limit FT FC fr l (A ++ B) (c0 + 8) w' := by
  have HK := Hidden.mk (xf_longest k hk h hx ht hm hmb hc hc0)
  have hlt := h.blk.lt
  have H := Hidden.mk (And.intro hx (And.intro hA (And.intro hB (And.intro hk hmb))))
  obtain ⟨hk0, hk1⟩ := hk
  clear h hx ht hm hmb hc hA hB
  go_enter Try.func76, Try.ntmps76
  go_wp2_with fail
  refine HK.out.mono ?_
  rintro e w2 ⟨z, ⟨x, y⟩, rfl, hz, hz1, hz2, pr2, m2, c2, hI2, hm2, ht2, hc2, hM2⟩
  have ha := (Mod.refl [] w2).alloc (.cells #[.int .i64 x, .int .i64 y] 89)
  have H2 := Hidden.mk (And.intro (hI2.mod ha (by simp)) (And.intro (hm2.mod ha (by simp)) (And.intro ht2 (And.intro hc2 (hM2.trans ha (by simp))))))
  have cx := (H2.out.1.blk.cell 2 : (w2.alloc (.cells #[.int .i64 x, .int .i64 y] 89)).cell? ⟨xb, 2, none⟩ = some (.pointer (some ⟨cb, 0, none⟩)))
  have hl2 := hI2.blk.lt
  have cx2 : w2.cell? ⟨xb, 2, none⟩ = some (.pointer (some ⟨cb, 0, none⟩)) := hI2.blk.cell 2
  have HZ := Hidden.mk (And.intro hz (And.intro hz1 hz2))
  clear hz1 hz2 hI2 hm2 ht2 hc2 hM2 HK cx
  by_cases hzm : z = -1
  · subst hzm
    have HN := Hidden.mk (IsLong.none hz H.out.1.k64 H.out.2.2.2.1)
    clear hz ha
    go_wp2_with fail
    go_ret
    have hAn : A = [] := (List.append_eq_nil_iff.1 HN.out).1
    exact ⟨by rw [hAn]; rfl, _, _, _, H2.out.1, H2.out.2.1, H2.out.2.2.1, by have := H2.out.2.2.2.1; omega, H2.out.2.2.2.2⟩
  · obtain ⟨b, rfl⟩ := Int.eq_ofNat_of_zero_le (show 0 ≤ z by have := hz.1; omega)
    have hb64 : b < 64 := by
      rcases Nat.lt_or_ge b 64 with h | h
      · exact h
      · have : (b : Int) = 64 := by have := hz.2.1; omega
        rw [this] at hz
        obtain ⟨e, he, hek⟩ := hz.whole
        rcases List.mem_append.1 he with he | he
        · have := H.out.2.1 e he; omega
        · have := H.out.2.2.1 e he; omega
    have hbm : ((b : Int) == -1) = false := beq_eq_false_iff_ne.2 (by omega)
    have ew : IntKind.i64.wrap (63 - (b : Int)) = 63 - b := IntWalk.i64_in _ (by omega)
    have hbit := bit_of ⟨hk0, hk1⟩ hb64
    have HS := Hidden.mk (HZ.out.2.2 b rfl)
    have HL := Hidden.mk hz
    rcases (show pfx k (b + 1) % 2 = 0 ∨ pfx k (b + 1) % 2 = 1 by omega) with hr | hr
    · rw [hr] at hbit
      obtain ⟨hBn, hlo⟩ := side_lo hz hb64 H.out.1 H.out.2.1 H.out.2.2.1 ⟨hk0, hk1⟩ HS.out hr
      obtain ⟨B', a, k', hB', hla⟩ := head_link hBn
      have hxa : x = a := by rw [← hla]; exact hlo
      subst hxa
      have HP := Hidden.mk (fun W (hW : Mod [] (w2.alloc (.cells #[.int .i64 a, .int .i64 y] 89)) W) => chain_prev_yes (A := A) (B := B') (k := k') (a := a) (by have := H2.out.1.chn.mod hW (by simp); rw [hB'] at this; exact this) (H2.out.2.1.mod hW (by simp)) (fun hh => H.out.2.2.2.2 (by simp [hh])))
      clear hz hr hzm hlo hla hBn HZ ha
      go_wp2_with fail
      go_region_with (go_at_call 60; refine (HP.out _ (Mod.refl [] _).drew).mono ?_; rintro e w5 ⟨rfl, hm5, hM5⟩; have H5 := Hidden.mk (And.intro hm5 ((Mod.refl [mb] _).drew.trans hM5 (fun q hq => .inl hq))); clear hm5 hM5)
      all_goals
        go_wp2_with fail
        go_ret
        exact ⟨rfl, _, _, _, H2.out.1.read H.out.2.2.2.2 H5.out.2, H5.out.1, Mt.read_taken H2.out.2.2.1 (by have := H2.out.2.2.2.1; omega), by have := H2.out.2.2.2.1; omega, H2.out.2.2.2.2.trans H5.out.2 (fun q hq => .inl (by rw [List.mem_singleton.1 hq]; simp))⟩
    · rw [hr] at hbit
      have HX := Hidden.mk (side_hi hz hb64 H.out.1 H.out.2.1 H.out.2.2.1 ⟨hk0, hk1⟩ HS.out hr)
      clear hz hr hzm HZ ha
      go_wp2_with fail
      go_ret
      exact ⟨by rw [← HX.out.2]; rfl, _, _, _, H2.out.1, H2.out.2.1, H2.out.2.2.1, by have := H2.out.2.2.2.1; omega, H2.out.2.2.2.2⟩
end
end Go.Proofs.Ytfioekkegihkoaa
