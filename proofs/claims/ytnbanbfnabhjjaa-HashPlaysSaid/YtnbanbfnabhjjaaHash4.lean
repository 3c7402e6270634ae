/- The hash table behind one word: a list of entries, each key once; New, Get, Len, Size, Probes, Clear. -/
import Derived.Test.YtnbanbfnabhjjaaHash3
namespace Go.Proofs.Ytnbanbfnabhjjaa
open Go.RowKit
set_option linter.unusedVariables false
set_option linter.unusedSimpArgs false

/-- The value of a key in a list of entries. -/
def lk (l : List (HK × Int)) (k : HK) : Option Int := (l.find? (fun e => decide (e.1 = k))).map (·.2)
def putL (l : List (HK × Int)) (k : HK) (v : Int) : List (HK × Int) := (k, v) :: l.filter (fun e => decide (e.1 ≠ k))
def dropL (l : List (HK × Int)) (k : HK) : List (HK × Int) := l.filter (fun e => decide (e.1 ≠ k))
/-- The table at tb with its places at pb: its entries are those of l, in some order. -/
structure TabS (w : World) (tb mb pb b : Nat) (seed pr : Int) (L : HT) (l : List (HK × Int)) : Prop where
  tab : TabIn w tb mb pb b seed L l.length pr
  perm : (ents L).Perm l
  room : 2 * l.length ≤ L.length
  small : b = 3 ∨ L.length ≤ 8 * l.length
def TabAt (w : World) (tb mb : Nat) (F : List Nat) (b : Nat) (pr : Int) (l : List (HK × Int)) : Prop := ∃ pb seed L, F = [tb, pb] ∧ TabS w tb mb pb b seed pr L l
theorem TabAt.mod {w w' : World} {tb mb b : Nat} {F : List Nat} {pr : Int} {l : List (HK × Int)} (h : TabAt w tb mb F b pr l) {S : List Nat} (hm : Mod S w w') (hS : ∀ k ∈ S, k ∉ F) : TabAt w' tb mb F b pr l := by
  obtain ⟨pb, seed, L, rfl, h⟩ := h
  exact ⟨pb, seed, L, rfl, h.tab.mod hm (fun hk => hS _ hk (by simp)) (fun hk => hS _ hk (by simp)), h.perm, h.room, h.small⟩
theorem TabAt.lt {w : World} {tb mb b : Nat} {F : List Nat} {pr : Int} {l : List (HK × Int)} (h : TabAt w tb mb F b pr l) : ∀ k ∈ F, k < w.heap.size := by
  obtain ⟨pb, seed, L, rfl, h⟩ := h
  intro k hk; simp only [List.mem_cons, List.not_mem_nil, or_false] at hk
  rcases hk with rfl | rfl
  · exact h.tab.blk.lt
  · exact h.tab.places.lt
theorem TabAt.head {w : World} {tb mb b : Nat} {F : List Nat} {pr : Int} {l : List (HK × Int)} (h : TabAt w tb mb F b pr l) : tb ∈ F := by
  obtain ⟨pb, seed, L, rfl, h⟩ := h; simp
/-- Any order of the entries will do. -/
theorem TabAt.perm {w : World} {tb mb b : Nat} {F : List Nat} {pr : Int} {l l' : List (HK × Int)} (h : TabAt w tb mb F b pr l) (hp : l.Perm l') : TabAt w tb mb F b pr l' := by
  obtain ⟨pb, seed, L, rfl, h⟩ := h
  exact ⟨pb, seed, L, rfl, by rw [← hp.length_eq]; exact h.tab, h.perm.trans hp, by rw [← hp.length_eq]; exact h.room, by rw [← hp.length_eq]; exact h.small⟩
theorem ents_nodup {h : HK → Nat} {L : HT} (H : HInv h L) : ((ents L).map (·.1)).Nodup := by
  have key : ∀ (M : HT) (off : Nat), (∀ p q e e', pl M p = some e → pl M q = some e' → e.1 = e'.1 → p = q) → ((ents M).map (·.1)).Nodup := by
    intro M
    induction M with
    | nil => intro _ _; simp [ents]
    | cons o M ih =>
      intro off hu
      have hM : ∀ p q e e', pl M p = some e → pl M q = some e' → e.1 = e'.1 → p = q := by
        intro p q e e' hp hq hk
        have := hu (p + 1) (q + 1) e e' (by simpa [pl] using hp) (by simpa [pl] using hq) hk
        omega
      cases o with
      | none => simpa [ents] using ih 0 hM
      | some e =>
        have : ents (some e :: M) = e :: ents M := by simp [ents]
        rw [this, List.map_cons, List.nodup_cons]
        refine ⟨fun hm => ?_, ih 0 hM⟩
        obtain ⟨e', he', hk⟩ := List.mem_map.1 hm
        obtain ⟨p, hp⟩ := mem_ents.1 he'
        have := hu 0 (p + 1) e e' (by simp [pl]) (by simpa [pl] using hp) hk.symm
        omega
  exact key L 0 H.uniq
theorem TabAt.nodup {w : World} {tb mb b : Nat} {F : List Nat} {pr : Int} {l : List (HK × Int)} (h : TabAt w tb mb F b pr l) : (l.map (·.1)).Nodup := by
  obtain ⟨pb, seed, L, rfl, h⟩ := h
  exact (h.perm.map _).nodup_iff.1 (ents_nodup h.tab.inv)
theorem TabAt.keys {w : World} {tb mb b : Nat} {F : List Nat} {pr : Int} {l : List (HK × Int)} (h : TabAt w tb mb F b pr l) : ∀ e ∈ l, KeyOK e.1 := by
  obtain ⟨pb, seed, L, rfl, h⟩ := h
  exact fun e he => h.tab.keys e (h.perm.mem_iff.2 he)
theorem lk_none {l : List (HK × Int)} {k : HK} : lk l k = none ↔ ∀ e ∈ l, e.1 ≠ k := by unfold lk; simp
theorem lk_some {l : List (HK × Int)} (hn : (l.map (·.1)).Nodup) {e : HK × Int} (he : e ∈ l) : lk l e.1 = some e.2 := by
  induction l with
  | nil => cases he
  | cons a l ih =>
    rw [List.map_cons, List.nodup_cons] at hn
    unfold lk; rw [List.find?_cons]
    rcases List.mem_cons.1 he with rfl | hm
    · simp
    · have hne : a.1 ≠ e.1 := fun h => hn.1 (h ▸ List.mem_map.2 ⟨e, hm, rfl⟩)
      simp only [hne, decide_false]
      exact ih hn.2 hm
theorem lk_mem {l : List (HK × Int)} {k : HK} {v : Int} (h : lk l k = some v) : (k, v) ∈ l := by
  unfold lk at h
  cases hf : l.find? (fun e => decide (e.1 = k)) with
  | none => rw [hf] at h; cases h
  | some e =>
    rw [hf] at h; simp at h
    have h1 := List.find?_some hf
    have h2 := List.mem_of_find?_eq_some hf
    simp at h1
    obtain ⟨e1, e2⟩ := e
    simp only at h h1
    subst h h1; exact h2
theorem lk_perm {l l' : List (HK × Int)} (hn : (l.map (·.1)).Nodup) (hp : l.Perm l') (k : HK) : lk l k = lk l' k := by
  cases h : lk l' k with
  | none => rw [lk_none] at h ⊢; exact fun e he => h e (hp.mem_iff.1 he)
  | some v => exact lk_some hn (hp.mem_iff.2 (lk_mem h))
theorem filter_absent {l : List (HK × Int)} {k : HK} (h : lk l k = none) : l.filter (fun e => decide (e.1 ≠ k)) = l := by
  rw [List.filter_eq_self]; intro e he; simpa using lk_none.1 h e he
theorem filter_present {l : List (HK × Int)} (hn : (l.map (·.1)).Nodup) {k : HK} {v : Int} (h : (k, v) ∈ l) : l.Perm ((k, v) :: l.filter (fun e => decide (e.1 ≠ k))) := by
  induction l with
  | nil => cases h
  | cons a l ih =>
    rw [List.map_cons, List.nodup_cons] at hn
    rcases List.mem_cons.1 h with rfl | hm
    · have : l.filter (fun e => decide (e.1 ≠ k)) = l := by
        rw [List.filter_eq_self]; intro e he; simp; rintro rfl; exact hn.1 (List.mem_map.2 ⟨e, he, rfl⟩)
      simp only [List.filter_cons, ne_eq, not_true_eq_false, decide_false, Bool.false_eq_true, if_false]
      simp only [ne_eq] at this; rw [this]
    · have hne : a.1 ≠ k := fun e => hn.1 (e ▸ List.mem_map.2 ⟨(k, v), hm, rfl⟩)
      simp only [List.filter_cons, ne_eq, hne, not_false_eq_true, decide_true, if_true]
      exact (List.Perm.cons a (ih hn.2 hm)).trans (List.Perm.swap _ _ _)
/-- What find's stop tells of the entries. -/
theorem stop_lk {h : HK → Nat} {L : HT} {l : List (HK × Int)} (H : HInv h L) (hp : (ents L).Perm l) {k : HK} {d : Nat} (s : Stop h L k d) :
    (pl L (up L.length (h k) d) = none ∧ lk l k = none) ∨ ∃ v, pl L (up L.length (h k) d) = some (k, v) ∧ lk l k = some v := by
  cases hpl : pl L (up L.length (h k) d) with
  | none => exact .inl ⟨rfl, lk_none.2 fun e he => s.absent H hpl e (hp.mem_iff.2 he)⟩
  | some e =>
    have hk := s.at_ e hpl
    obtain ⟨k', v⟩ := e
    simp only at hk; subst hk
    refine .inr ⟨v, rfl, ?_⟩
    rw [← lk_perm (ents_nodup H) hp]
    exact lk_some (ents_nodup H) (e := (k', v)) (mem_ents.2 ⟨_, hpl⟩)

set_option maxHeartbeats 400000 in
theorem hash_len_nil (w : World) : Calls Try.prog 70 #[.pointer none] w fun e w' => e = .returned (.int .i64 0) ∧ w = w' := by
  go_enter Try.func70, Try.ntmps70
  go_wp2
  go_ret
  exact ⟨rfl, rfl⟩
set_option maxHeartbeats 400000 in
theorem hash_len {w : World} {tb mb b : Nat} {F : List Nat} {pr : Int} {l : List (HK × Int)} (h : TabAt w tb mb F b pr l) : Calls Try.prog 70 #[.pointer (some ⟨tb, 0, none⟩)] w fun e w' => e = .returned (.int .i64 l.length) ∧ w = w' := by
  obtain ⟨pb, seed, L, rfl, h⟩ := h
  have c3 : w.cell? ⟨tb, 3, none⟩ = some (.int .i64 l.length) := h.tab.blk.cell 3
  clear h
  go_enter Try.func70, Try.ntmps70
  go_wp2
  go_ret
  exact ⟨rfl, rfl⟩
set_option maxHeartbeats 400000 in
theorem hash_size_nil (w : World) : Calls Try.prog 71 #[.pointer none] w fun e w' => e = .returned (.int .i64 0) ∧ w = w' := by
  go_enter Try.func71, Try.ntmps71
  go_wp2
  go_ret
  exact ⟨rfl, rfl⟩
set_option maxHeartbeats 400000 in
theorem hash_size {w : World} {tb mb b : Nat} {F : List Nat} {pr : Int} {l : List (HK × Int)} (h : TabAt w tb mb F b pr l) : Calls Try.prog 71 #[.pointer (some ⟨tb, 0, none⟩)] w fun e w' => e = .returned (.int .i64 ((2 ^ b : Nat) : Int)) ∧ w = w' := by
  obtain ⟨pb, seed, L, rfl, h⟩ := h
  have c3 : w.cell? ⟨tb, 1, none⟩ = some (.slice (some ⟨pb, 0, none⟩) L.length L.length) := h.tab.blk.cell 1
  rw [← h.tab.len]
  clear h
  go_enter Try.func71, Try.ntmps71
  go_wp2
  go_ret
  exact ⟨rfl, rfl⟩
set_option maxHeartbeats 400000 in
theorem hash_probes_nil (w : World) : Calls Try.prog 76 #[.pointer none] w fun e w' => e = .returned (.int .i64 0) ∧ w = w' := by
  go_enter Try.func76, Try.ntmps76
  go_wp2
  go_ret
  exact ⟨rfl, rfl⟩
set_option maxHeartbeats 400000 in
theorem hash_probes {w : World} {tb mb b : Nat} {F : List Nat} {pr : Int} {l : List (HK × Int)} (h : TabAt w tb mb F b pr l) : Calls Try.prog 76 #[.pointer (some ⟨tb, 0, none⟩)] w fun e w' => e = .returned (.int .i64 pr) ∧ w = w' := by
  obtain ⟨pb, seed, L, rfl, h⟩ := h
  have c3 : w.cell? ⟨tb, 4, none⟩ = some (.int .i64 pr) := h.tab.blk.cell 4
  clear h
  go_enter Try.func76, Try.ntmps76
  go_wp2
  go_ret
  exact ⟨rfl, rfl⟩

theorem make8 (W : World) : (Instr.makeSlice 110 (.int .i64 8) (.int .i64 8)).run Try.prog W =
    .ok (.slice (some ⟨W.heap.size, 0, none⟩) 8 8) (W.alloc (.cells ((List.replicate 8 (none : Option (HK × Int))).flatMap encE).toArray 123)) := make_entries 8 (by omega) W
/-- The new table's two blocks. -/
theorem TabS.new_ {w : World} {tb mb pb : Nat} {seed : Int} (h1 : Blk w tb 112 (tabCells mb pb 8 seed 0 0)) (h2 : Blk w pb 123 ((List.replicate 8 (none : Option (HK × Int))).flatMap encE).toArray) :
    TabS w tb mb pb 3 seed 0 (List.replicate 8 none) [] :=
  ⟨⟨h1, h2, by simp, by omega, by omega, HInv.empty (fun k => homeF_lt seed 3 (by omega) k), by rw [ents_empty]; simp⟩, by rw [ents_empty], by simp, .inl rfl⟩
set_option maxHeartbeats 400000 in
theorem hash_new (mb : Nat) (seed : Int) (w : World) :
    Calls Try.prog 37 #[.pointer (some ⟨mb, 0, none⟩), .int .u64 seed] w fun e w' => ∃ tb F, e = .returned (.pointer (some ⟨tb, 0, none⟩)) ∧ TabAt w' tb mb F 3 0 [] ∧ Mod [] w w' ∧ ∀ k ∈ F, w.heap.size ≤ k := by
  have hmk := make8
  go_enter Try.func37, Try.ntmps37
  go_wp2
  go_ret
  refine ⟨w.heap.size + 1, [w.heap.size + 1, w.heap.size], rfl, ⟨w.heap.size, seed, _, rfl, TabS.new_ (Blk.new' (by simp) _ _) ((Blk.new' rfl _ _).alloc _)⟩, ((Mod.refl _ w).alloc _).alloc _, ?_⟩
  intro k hk; simp at hk; omega
set_option maxHeartbeats 400000 in
theorem hash_new_nil (seed : Int) (w : World) :
    Calls Try.prog 37 #[.pointer none, .int .u64 seed] w fun e w' => ∃ tb F, e = .returned (.pointer (some ⟨tb, 0, none⟩)) ∧ TabAt w' tb w.heap.size F 3 0 [] ∧ MeterAt w' w.heap.size Mt.zero ∧ w.heap.size ∉ F ∧ Mod [] w w' ∧ ∀ k ∈ F, w.heap.size ≤ k := by
  have hmk := make8
  have hm0 := MeterAt.new w
  go_enter Try.func37, Try.ntmps37
  go_wp2_with (go_at_call 30; refine (meter_new _).mono ?_; rintro e w' ⟨rfl, rfl⟩)
  go_ret
  refine ⟨w.heap.size + 2, [w.heap.size + 2, w.heap.size + 1], rfl, ⟨w.heap.size + 1, seed, _, rfl, TabS.new_ (Blk.new' (by simp) _ _) ((Blk.new' (by simp) _ _).alloc _)⟩, hm0.mod (((Mod.refl [] _).alloc _).alloc _) (by simp), by simp, (((Mod.refl _ w).alloc _).alloc _).alloc _, ?_⟩
  intro k hk; simp at hk; omega
set_option maxHeartbeats 400000 in
theorem hash_clear_nil (w : World) : Calls Try.prog 75 #[.pointer none] w fun e w' => e = .returned (.tuple #[]) ∧ w = w' := by
  go_enter Try.func75, Try.ntmps75
  go_wp2
  go_end0
  exact ⟨rfl, rfl⟩
set_option maxHeartbeats 400000 in
theorem hash_clear {w : World} {tb mb b : Nat} {F : List Nat} {pr : Int} {l : List (HK × Int)} (h : TabAt w tb mb F b pr l) : Calls Try.prog 75 #[.pointer (some ⟨tb, 0, none⟩)] w fun e w' => e = .returned (.tuple #[]) ∧
    ∃ F', TabAt w' tb mb F' 3 0 [] ∧ Mod F w w' ∧ ∀ k ∈ F', k ∈ F ∨ w.heap.size ≤ k := by
  obtain ⟨pb, seed, L, rfl, h⟩ := h
  have hmk := make8
  have hlt := h.tab.blk.lt
  have hb := h.tab.blk
  have c1 : w.cell? ⟨tb, 1, none⟩ = some (.slice (some ⟨pb, 0, none⟩) L.length L.length) := h.tab.blk.cell 1
  have c3 : w.cell? ⟨tb, 3, none⟩ = some (.int .i64 l.length) := h.tab.blk.cell 3
  have c4 : w.cell? ⟨tb, 4, none⟩ = some (.int .i64 pr) := h.tab.blk.cell 4
  have f1 := h.tab.blk.frozen 1
  have f3 := h.tab.blk.frozen 3
  have f4 := h.tab.blk.frozen 4
  have HB : Hidden (Blk w tb 112 (tabCells mb pb L.length seed l.length pr)) := ⟨hb⟩
  clear h hb
  go_enter Try.func75, Try.ntmps75
  go_wp2
  go_end0
  refine ⟨rfl, [tb, w.heap.size], ⟨w.heap.size, seed, _, rfl, TabS.new_ ((((HB.out.set 1 _).set 3 _).set 4 _).alloc _) (Blk.new' (by simp [World.setCell]) _ _)⟩, ?_, by simp⟩
  exact ((((Mod.refl _ w).set (.inl (by simp)) _).set (.inl (by simp)) _).set (.inl (by simp)) _).alloc _

set_option maxHeartbeats 400000 in
theorem hash_get_nil (k : HK) (w : World) : Calls Try.prog 40 #[.pointer none, keyV k] w fun e w' => e = .returned (.tuple #[.int .u64 0, .bool false]) ∧ Mod [] w w' := by
  unfold keyV
  go_enter Try.func40, Try.ntmps40
  go_wp2
  go_ret2
  exact ⟨rfl, (Mod.refl _ w).alloc _⟩
theorem TabS.free {w : World} {tb mb pb b : Nat} {seed pr : Int} {L : HT} {l : List (HK × Int)} (h : TabS w tb mb pb b seed pr L l) : ∃ z, z < L.length ∧ pl L z = none :=
  free_exists (by rw [h.perm.length_eq]; have := h.room; have := h.tab.N2; omega)
set_option maxRecDepth 100000 in
set_option maxHeartbeats 1000000 in
theorem hash_get {w : World} {tb mb b : Nat} {F : List Nat} {pr : Int} {l : List (HK × Int)} {m : Mt} (k : HK) (hk : KeyOK k) (h : TabAt w tb mb F b pr l) (hm : MeterAt w mb m) (hmF : mb ∉ F) :
    Calls Try.prog 40 #[.pointer (some ⟨tb, 0, none⟩), keyV k] w fun e w' => e = .returned (.tuple #[.int .u64 ((lk l k).getD 0), .bool (lk l k).isSome]) ∧
      ∃ pr', TabAt w' tb mb F b pr' l ∧ MeterAt w' mb m.call ∧ Mod (mb :: F) w w' ∧ 1 ≤ pr' ∧ pr' ≤ ((2 ^ b : Nat) : Int) := by
  obtain ⟨pb, seed, L, rfl, h⟩ := h
  obtain ⟨z, hz, hfree⟩ := h.free
  have hlt := h.tab.blk.lt
  have hplt := h.tab.places.lt
  have hmlt := hm.lt
  have hmt : mb ≠ tb := fun e => hmF (by simp [e])
  have hmp : mb ≠ pb := fun e => hmF (by simp [e])
  have c0 : w.cell? ⟨tb, 0, none⟩ = some (.pointer (some ⟨mb, 0, none⟩)) := h.tab.blk.cell 0
  have hcall := fun o => meter_call mb m (w.alloc o) (hm.mod ((Mod.refl [] w).alloc o) (by simp))
  have hKb : Blk (w.alloc (.cells #[.int .u8 k.1, .int .u64 k.2] 64)) w.heap.size 64 #[.int .u8 k.1, .int .u64 k.2] := Blk.new _ _ _
  have H : Hidden (TabS w tb mb pb b seed pr L l) := ⟨h⟩
  have HZ : Hidden (z < L.length ∧ pl L z = none) := ⟨hz, hfree⟩
  clear h hm hz hfree hmF
  obtain ⟨k1, k2⟩ := k
  unfold keyV
  simp only at hKb
  go_enter Try.func40, Try.ntmps40
  go_wp2_with fail
  refine (hcall _).mono ?_
  clear hcall
  rintro e w1 ⟨rfl, hm1, hmod1⟩
  have ht1 : TabIn w1 tb mb pb b seed L l.length pr := H.out.tab.mod (((Mod.refl [mb] w).alloc _).trans hmod1 (by simp)) (by simp; omega) (by simp; omega)
  have hKb1 := hKb.mod hmod1 (by simp; omega)
  have hmod2 : Mod [mb, tb, pb] w w1 := (((Mod.refl [mb] w).alloc _).trans hmod1 (by simp)).mono (by simp +contextual)
  have x0 : w1.cell? ⟨w.heap.size, 0, none⟩ = some (.int .u8 k1) := hKb1.cell 0
  have x1 : w1.cell? ⟨w.heap.size, 1, none⟩ = some (.int .u64 k2) := hKb1.cell 1
  have hf := find_any tb mb pb b l.length seed pr L (k1, k2) w1 ht1 hk HZ.out.1 HZ.out.2
  unfold keyV at hf
  clear hmod1 hKb hKb1 ht1
  go_wp2_with fail
  refine hf.mono ?_
  clear hf x0 x1 c0
  rintro e w2 ⟨d, hd, rfl, ht2, hmod3⟩
  have hst := stop_lk ht2.inv H.out.perm hd
  have hu := up_spec (ht2.inv.home (k1, k2)) hd.lt
  have hdl := hd.lt
  have HR : Hidden (TabAt w2 tb mb [tb, pb] b ((d : Int) + 1) l ∧ MeterAt w2 mb m.call ∧ Mod [mb, tb, pb] w w2 ∧ 1 ≤ (d : Int) + 1 ∧ (d : Int) + 1 ≤ ((2 ^ b : Nat) : Int)) :=
    ⟨⟨pb, seed, L, rfl, ht2, H.out.perm, H.out.room, H.out.small⟩, hm1.mod hmod3 (by simp; omega), hmod2.trans hmod3 (by simp), by omega, by rw [← ht2.len]; omega⟩
  rcases hst with ⟨hp, hl⟩ | ⟨v, hp, hl⟩
  · rw [hp]
    simp only [Option.isSome_none]
    have HLk : Hidden (lk l (k1, k2) = none) := ⟨hl⟩
    clear hp hl hd hmod2 hmod3 ht2 hm1
    go_wp2_with fail
    go_ret2
    rw [HLk.out]
    exact ⟨rfl, _, HR.out⟩
  · have p2 := place_cell ht2.places hu.1 2 (by omega)
    rw [hp] at p2
    simp only [encE, List.getElem?_cons_zero, List.getElem?_cons_succ] at p2
    have hc1 : w2.cell? ⟨tb, 1, none⟩ = some (.slice (some ⟨pb, 0, none⟩) L.length L.length) := ht2.blk.cell 1
    rw [hp]
    simp only [Option.isSome_some]
    have HLk : Hidden (lk l (k1, k2) = some v) := ⟨hl⟩
    clear hp hl hd hmod2 hmod3 hm1
    have hul := hu.1
    have hN2 := ht2.N2
    clear ht2 hu
    generalize up L.length (homeF seed b (k1, k2)) d = u at *
    go_wp2_with fail
    go_ret2
    rw [HLk.out]
    exact ⟨rfl, _, HR.out⟩
end Go.Proofs.Ytnbanbfnabhjjaa
