/- Tables beside lists. -/
import Derived.Test.YtnbanbfnabhjjaaHashAct
import Derived.Test.YtnbanbfnabhjjaaArgs2
namespace Go.Proofs.Ytnbanbfnabhjjaa
open Go.RowKit
set_option linter.unusedVariables false
set_option linter.unusedSimpArgs false
/-- A table and the document's list, both of the call's own. -/
structure PlayH (w0 w : World) (tb mb b : Nat) (F : List Nat) (pr : Int) (l : EL) (m : Mt) (v : Value) : Prop where
  p : Pair5 w tb mb b F pr l m v
  below : Below w0.heap.size w0 w
  g1 : w0.heap.size ≤ mb
  g2 : ∀ k ∈ F, w0.heap.size ≤ k
  g3 : ∀ k ∈ rb v, w0.heap.size ≤ k
section
variable {w0 w w' : World} {tb mb b : Nat} {F : List Nat} {pr : Int} {l l' : EL} {m m' : Mt} {v : Value}
theorem PlayH.mod0 (h : PlayH w0 w tb mb b F pr l m v) (hm : Mod [] w w') : PlayH w0 w' tb mb b F pr l m v :=
  ⟨h.p.mod0 hm, h.below.trans (hm.below h.below.size (by simp)), h.g1, h.g2, h.g3⟩
theorem PlayH.did (h : PlayH w0 w tb mb b F pr l m v) {fn : Nat} {args : Array Value} (hc : Calls Try.prog fn args w (Did w tb mb F v l' m')) :
    Calls Try.prog fn args w fun e w' => ∃ bo co b' F' pr', e = .returned (.tuple #[.slice bo l'.length co, .bool true]) ∧ PlayH w0 w' tb mb b' F' pr' l' m' (.slice bo l'.length co) ∧ Mod (mb :: F) w w' := by
  refine hc.mono ?_
  rintro e w' ⟨v', F', b', pr', rfl, k1, k2, k3, k4⟩
  obtain ⟨bo, co, rfl, _⟩ := k1.row.slice_
  have hs := h.below.size
  refine ⟨bo, co, b', F', pr', rfl, ⟨k1, h.below.trans (k2.below hs (fun x hx => ?_)), h.g1, fun k hk => ?_, fun k hk => ?_⟩, k2⟩
  · rcases List.mem_cons.1 hx with rfl | hx
    · exact h.g1
    · exact h.g2 x hx
  · rcases k3 k hk with hk | hk
    · exact h.g2 k hk
    · omega
  · rcases k4 k hk with hk | hk
    · exact h.g3 k hk
    · omega
theorem PlayH.size (h : PlayH w0 w tb mb b F pr l m v) : Calls Try.prog 71 #[.pointer (some ⟨tb, 0, none⟩)] w fun e w' => e = .returned (.int .i64 ((2 ^ b : Nat) : Int)) ∧ w = w' := hash_size h.p.tab
theorem PlayH.len (h : PlayH w0 w tb mb b F pr l m v) : Calls Try.prog 70 #[.pointer (some ⟨tb, 0, none⟩)] w fun e w' => e = .returned (.int .i64 l.length) ∧ w = w' := hash_len h.p.tab
theorem PlayH.room (h : PlayH w0 w tb mb b F pr l m v) : 2 * l.length ≤ 2 ^ b ∧ 8 ≤ 2 ^ b ∧ 2 ^ b ≤ 1099511627776 ∧ b ≤ 40 ∧ (l = [] → 2 ^ b = 8) := by
  obtain ⟨pb, seed, L, rfl, ht⟩ := h.p.tab
  have h2 := ht.tab.N2
  rw [ht.tab.len] at h2
  refine ⟨by rw [← ht.tab.len]; exact ht.room, h2.1, h2.2, ht.tab.b40, fun e => ?_⟩
  rcases ht.small with rfl | hs
  · rfl
  · rw [ht.tab.len, e] at hs; simp at hs
/-- all, at a world in which only new blocks have come. -/
theorem PlayH.all (h : PlayH w0 w tb mb b F pr l m v) (hl : l.length ≤ 1000) (most : Nat) (h1 : 1 ≤ most) (h2 : most ≤ 1000) :
    Calls Try.prog 72 #[.pointer (some ⟨tb, 0, none⟩), .int .i64 most] w fun e w' => ∃ bo co, e = .returned (.slice bo (l.take most).length co) ∧ ERow w' (.slice bo (l.take most).length co) (l.take most) ∧ Mod [] w w' := by
  refine (all_any h.p.tab h.p.rise hl most h1 h2).mono ?_
  rintro e w' ⟨bo, co, rfl, k1, k2, _⟩
  exact ⟨bo, co, rfl, k1, Mod.of_below k2⟩
theorem PlayH.calls (h : PlayH w0 w tb mb b F pr l m v) : Calls Try.prog 77 #[.pointer (some ⟨mb, 0, none⟩)] w fun e w' => e = .returned (.int .i64 m.calls) ∧ Mod [] w w' := meter_Calls mb m w h.p.met
theorem PlayH.c0 (h : PlayH w0 w tb mb b F pr l m v) : w.cell? ⟨tb, 0, none⟩ = some (.pointer (some ⟨mb, 0, none⟩)) := by
  obtain ⟨pb, seed, L, rfl, ht⟩ := h.p.tab; exact ht.tab.blk.cell 0
/-- The list's first ones, as a slice of its row. -/
theorem erow_cut {bo : Option Addr} {co : Nat} (h : ERow w (.slice bo l.length co) l) (k : Nat) (hk : k ≤ l.length) : ERow w (.slice bo k co) (l.take k) ∧ (l.take k).length = k := by
  have e : (l.take k).length = k := by rw [List.length_take]; omega
  refine ⟨?_, e⟩
  show Row w _ 3 _ (l.take k).length _
  rw [e, ← flat_take encT 3 encT_len]
  rcases h.2 with ⟨hv, hn⟩ | ⟨g, cap, cur, hv, _⟩
  · injection hv with e1 e2 e3
    subst e1 e3
    have : k = 0 := by omega
    subst this
    simp only [Nat.zero_mul, List.take_zero]
    exact Row.nil_ _ _ _
  · injection hv with e1 e2 e3
    subst e1
    exact Row.cut h hk
end
/-- A block of a table's, its meter's or its list's. -/
def Own (mb : Nat) (F : List Nat) (v : Value) (k : Nat) : Prop := k ∈ mb :: F ∨ k ∈ rb v
section
variable {w0 w w' : World} {tb mb b : Nat} {F : List Nat} {pr : Int} {l : EL} {m : Mt} {v : Value}
theorem PlayH.olt (h : PlayH w0 w tb mb b F pr l m v) {k : Nat} (hk : Own mb F v k) : k < w.heap.size := by
  rcases hk with hk | hk
  · rcases List.mem_cons.1 hk with rfl | hk
    · exact h.p.met.lt
    · exact h.p.tab.lt _ hk
  · exact h.p.row.lt hk
theorem PlayH.ge (h : PlayH w0 w tb mb b F pr l m v) {k : Nat} (hk : Own mb F v k) : w0.heap.size ≤ k := by
  rcases hk with hk | hk
  · rcases List.mem_cons.1 hk with rfl | hk
    · exact h.g1
    · exact h.g2 _ hk
  · exact h.g3 _ hk
theorem PlayH.far (h : PlayH w0 w tb mb b F pr l m v) {S : List Nat} (hm : Mod S w w') (h1 : ∀ k, Own mb F v k → k ∉ S) (h2 : ∀ k ∈ S, w0.heap.size ≤ k) : PlayH w0 w' tb mb b F pr l m v :=
  ⟨⟨h.p.tab.mod hm (fun k hk hk' => h1 k (.inl (List.mem_cons_of_mem _ hk')) hk), h.p.met.mod hm (h1 mb (.inl (List.mem_cons_self ..))), h.p.d1, h.p.row.mod hm (fun k hk => h1 k (.inr hk)), h.p.d2, h.p.rise⟩,
    h.below.trans (hm.below h.below.size h2), h.g1, h.g2, h.g3⟩
/-- What Did tells, with where the blocks come from. -/
theorem PlayH.did' (h : PlayH w0 w tb mb b F pr l m v) {l' : EL} {m' : Mt} {fn : Nat} {args : Array Value} (hc : Calls Try.prog fn args w (Did w tb mb F v l' m')) :
    Calls Try.prog fn args w fun e w' => ∃ bo co b' F' pr', e = .returned (.tuple #[.slice bo l'.length co, .bool true]) ∧ PlayH w0 w' tb mb b' F' pr' l' m' (.slice bo l'.length co) ∧ Mod (mb :: F) w w' ∧ (∀ k ∈ mb :: F', k ∈ mb :: F ∨ w.heap.size ≤ k) ∧ ∀ k ∈ rb (.slice bo l'.length co), k ∈ rb v ∨ w.heap.size ≤ k := by
  refine hc.mono ?_
  rintro e w' ⟨v', F', b', pr', rfl, k1, k2, k3, k4⟩
  obtain ⟨bo, co, rfl, _⟩ := k1.row.slice_
  have hs := h.below.size
  refine ⟨bo, co, b', F', pr', rfl, ⟨k1, h.below.trans (k2.below hs (fun x hx => ?_)), h.g1, fun k hk => ?_, fun k hk => ?_⟩, k2, fun k hk => ?_, k4⟩
  · rcases List.mem_cons.1 hx with rfl | hx
    · exact h.g1
    · exact h.g2 x hx
  · rcases k3 k hk with hk | hk
    · exact h.g2 k hk
    · omega
  · rcases k4 k hk with hk | hk
    · exact h.g3 k hk
    · omega
  · rcases List.mem_cons.1 hk with rfl | hk
    · exact .inl (List.mem_cons_self ..)
    · rcases k3 k hk with hk | hk
      · exact .inl (List.mem_cons_of_mem _ hk)
      · exact .inr hk
end
/-- Two tables, apart. -/
structure TwoH (w0 w : World) (tb mb b : Nat) (F : List Nat) (pr : Int) (l : EL) (m : Mt) (v : Value) (tb2 mb2 b2 : Nat) (F2 : List Nat) (pr2 : Int) (l2 : EL) (m2 : Mt) (v2 : Value) : Prop where
  p : PlayH w0 w tb mb b F pr l m v
  q : PlayH w0 w tb2 mb2 b2 F2 pr2 l2 m2 v2
  d1 : ∀ k, Own mb F v k → k ∉ mb2 :: F2
  d2 : ∀ k, Own mb2 F2 v2 k → k ∉ mb :: F
section
variable {w0 w w' : World} {tb mb b : Nat} {F : List Nat} {pr : Int} {l : EL} {m : Mt} {v : Value} {tb2 mb2 b2 : Nat} {F2 : List Nat} {pr2 : Int} {l2 : EL} {m2 : Mt} {v2 : Value}
theorem TwoH.swap (h : TwoH w0 w tb mb b F pr l m v tb2 mb2 b2 F2 pr2 l2 m2 v2) : TwoH w0 w tb2 mb2 b2 F2 pr2 l2 m2 v2 tb mb b F pr l m v := ⟨h.q, h.p, h.d2, h.d1⟩
theorem TwoH.mod0 (h : TwoH w0 w tb mb b F pr l m v tb2 mb2 b2 F2 pr2 l2 m2 v2) (hm : Mod [] w w') : TwoH w0 w' tb mb b F pr l m v tb2 mb2 b2 F2 pr2 l2 m2 v2 := ⟨h.p.mod0 hm, h.q.mod0 hm, h.d1, h.d2⟩
theorem TwoH.did (h : TwoH w0 w tb mb b F pr l m v tb2 mb2 b2 F2 pr2 l2 m2 v2) {l' : EL} {m' : Mt} {fn : Nat} {args : Array Value} (hc : Calls Try.prog fn args w (Did w tb mb F v l' m')) :
    Calls Try.prog fn args w fun e w' => ∃ bo co b' F' pr', e = .returned (.tuple #[.slice bo l'.length co, .bool true]) ∧ TwoH w0 w' tb mb b' F' pr' l' m' (.slice bo l'.length co) tb2 mb2 b2 F2 pr2 l2 m2 v2 ∧ Mod (mb :: F) w w' := by
  refine (h.p.did' hc).mono ?_
  rintro e w' ⟨bo, co, b', F', pr', rfl, hp, hm, h1, h2⟩
  refine ⟨bo, co, b', F', pr', rfl, ⟨hp, h.q.far hm h.d2 (fun k hk => h.p.ge (.inl hk)), fun k hk hk2 => ?_, fun k hk hk2 => ?_⟩, hm⟩
  · have hlt := h.q.olt (.inl hk2)
    rcases hk with hk | hk
    · rcases h1 k hk with h3 | h3
      · exact h.d1 k (.inl h3) hk2
      · omega
    · rcases h2 k hk with h3 | h3
      · exact h.d1 k (.inr h3) hk2
      · omega
  · have hlt := h.q.olt hk
    rcases h1 k hk2 with h3 | h3
    · exact h.d2 k hk h3
    · omega
end
end Go.Proofs.Ytnbanbfnabhjjaa
