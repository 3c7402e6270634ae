/- The hash table with its meter, behind one word: what a law sees. -/
import Derived.Test.YtnbanbfnabhjjaaHash6
namespace Go.Proofs.Ytnbanbfnabhjjaa
open Go.RowKit
set_option linter.unusedVariables false
set_option linter.unusedSimpArgs false

/-- A table at tb that the call itself has made, with entries l; its meter's count; below B all is as it was in w0. -/
def HM (w0 w : World) (tb b : Nat) (pr : Int) (l : List (HK × Int)) (m : Mt) : Prop := ∃ mb F, TabAt w tb mb F b pr l ∧ MeterAt w mb m ∧ mb ∉ F ∧ w0.heap.size ≤ mb ∧ (∀ k ∈ F, w0.heap.size ≤ k) ∧ Below w0.heap.size w0 w
theorem HM.below {w0 w : World} {tb b : Nat} {pr : Int} {l : List (HK × Int)} {m : Mt} (h : HM w0 w tb b pr l m) : Below w0.heap.size w0 w := by obtain ⟨mb, F, h1, h2, h3, h4, h5, h6⟩ := h; exact h6
theorem HM.nodup {w0 w : World} {tb b : Nat} {pr : Int} {l : List (HK × Int)} {m : Mt} (h : HM w0 w tb b pr l m) : (l.map (·.1)).Nodup := by obtain ⟨mb, F, h1, _⟩ := h; exact h1.nodup
theorem HM.perm {w0 w : World} {tb b : Nat} {pr : Int} {l l' : List (HK × Int)} {m : Mt} (h : HM w0 w tb b pr l m) (hp : l.Perm l') : HM w0 w tb b pr l' m := by
  obtain ⟨mb, F, h1, h2⟩ := h; exact ⟨mb, F, h1.perm hp, h2⟩
/-- Blocks that are none of the table's may turn; new ones too. -/
theorem HM.mod {w0 w w' : World} {tb b : Nat} {pr : Int} {l : List (HK × Int)} {m : Mt} {X : List Nat} (h : ∃ mb F, TabAt w tb mb F b pr l ∧ MeterAt w mb m ∧ mb ∉ F ∧ w0.heap.size ≤ mb ∧ (∀ k ∈ F, w0.heap.size ≤ k) ∧ Below w0.heap.size w0 w ∧ (∀ x ∈ X, x ∉ F ∧ x ≠ mb ∧ w0.heap.size ≤ x))
    (hm : Mod X w w') : HM w0 w' tb b pr l m := by
  obtain ⟨mb, F, h1, h2, h3, h4, h5, h6, h7⟩ := h
  exact ⟨mb, F, h1.mod hm (fun k hk => (h7 k hk).1), h2.mod hm (fun hk => (h7 mb hk).2.1 rfl), h3, h4, h5, h6.trans (hm.below h6.size (fun x hx => (h7 x hx).2.2))⟩
theorem HM.mod0 {w0 w w' : World} {tb b : Nat} {pr : Int} {l : List (HK × Int)} {m : Mt} (h : HM w0 w tb b pr l m) (hm : Mod [] w w') : HM w0 w' tb b pr l m := by
  obtain ⟨mb, F, h1, h2, h3, h4, h5, h6⟩ := h
  exact HM.mod (X := []) ⟨mb, F, h1, h2, h3, h4, h5, h6, by simp⟩ hm
/-- The same, with a block x of another's beside it. -/
def HMx (w0 w : World) (tb b : Nat) (pr : Int) (l : List (HK × Int)) (m : Mt) (x : Nat) : Prop := ∃ mb F, TabAt w tb mb F b pr l ∧ MeterAt w mb m ∧ mb ∉ F ∧ w0.heap.size ≤ mb ∧ (∀ k ∈ F, w0.heap.size ≤ k) ∧ Below w0.heap.size w0 w ∧ x ∉ F ∧ x ≠ mb ∧ w0.heap.size ≤ x ∧ x < w.heap.size
theorem HMx.hm {w0 w : World} {tb b : Nat} {pr : Int} {l : List (HK × Int)} {m : Mt} {x : Nat} (h : HMx w0 w tb b pr l m x) : HM w0 w tb b pr l m := by
  obtain ⟨mb, F, h1, h2, h3, h4, h5, h6, h7⟩ := h; exact ⟨mb, F, h1, h2, h3, h4, h5, h6⟩
theorem HM.x {w0 w : World} {tb b : Nat} {pr : Int} {l : List (HK × Int)} {m : Mt} (h : HM w0 w tb b pr l m) (o : Obj) : HMx w0 (w.alloc o) tb b pr l m w.heap.size := by
  obtain ⟨mb, F, h1, h2, h3, h4, h5, h6⟩ := h
  have hm := (Mod.refl [] w).alloc o
  exact ⟨mb, F, h1.mod hm (by simp), h2.mod hm (by simp), h3, h4, h5, h6.trans (hm.below h6.size (by simp)), fun hk => Nat.lt_irrefl _ (h1.lt _ hk), by have := h2.lt; omega, h6.size, by simp⟩
theorem HMx.perm {w0 w : World} {tb b : Nat} {pr : Int} {l l' : List (HK × Int)} {m : Mt} {x : Nat} (h : HMx w0 w tb b pr l m x) (hp : l.Perm l') : HMx w0 w tb b pr l' m x := by
  obtain ⟨mb, F, h1, h2⟩ := h; exact ⟨mb, F, h1.perm hp, h2⟩
theorem HMx.mod {w0 w w' : World} {tb b : Nat} {pr : Int} {l : List (HK × Int)} {m : Mt} {x : Nat} (h : HMx w0 w tb b pr l m x) (hm : Mod [x] w w') : HMx w0 w' tb b pr l m x := by
  obtain ⟨mb, F, h1, h2, h3, h4, h5, h6, h7, h8, h9, h10⟩ := h
  exact ⟨mb, F, h1.mod hm (by simpa using h7), h2.mod hm (by simpa using (Ne.symm h8)), h3, h4, h5, h6.trans (hm.below h6.size (by simpa using h9)), h7, h8, h9, Nat.lt_of_lt_of_le h10 hm.size⟩

theorem mem_cons_le {B mb : Nat} {F : List Nat} (h4 : B ≤ mb) (h5 : ∀ k ∈ F, B ≤ k) : ∀ x ∈ mb :: F, B ≤ x := by
  intro x hx
  rcases List.mem_cons.1 hx with rfl | hx
  · exact h4
  · exact h5 x hx
theorem hm_new_nil (seed : Int) (w0 w : World) (hb : Below w0.heap.size w0 w) :
    Calls Try.prog 37 #[.pointer none, .int .u64 seed] w fun e w' => ∃ tb, e = .returned (.pointer (some ⟨tb, 0, none⟩)) ∧ HM w0 w' tb 3 0 [] Mt.zero := by
  refine (hash_new_nil seed w).mono ?_
  rintro e w' ⟨tb, F, rfl, h1, h2, h3, h4, h5⟩
  have := hb.size
  exact ⟨tb, rfl, w.heap.size, F, h1, h2, h3, hb.size, fun k hk => Nat.le_trans hb.size (h5 k hk), hb.trans (h4.below hb.size (by simp))⟩
theorem hm_put_turn {w0 w w' : World} {tb mb b' : Nat} {F F' : List Nat} {pr' : Int} {l' : List (HK × Int)} {m : Mt} (h2 : MeterAt w mb m) (h3 : mb ∉ F) (h4 : w0.heap.size ≤ mb) (h5 : ∀ k ∈ F, w0.heap.size ≤ k) (h6 : Below w0.heap.size w0 w)
    (k1 : TabAt w' tb mb F' b' pr' l') (k2 : Mod F w w') (k3 : ∀ q ∈ F', q ∈ F ∨ w.heap.size ≤ q) : HM w0 w' tb b' pr' l' m := by
  have hlt := h2.lt
  refine ⟨mb, F', k1, h2.mod k2 h3, ?_, h4, ?_, h6.trans (k2.below h6.size h5)⟩
  · intro hk; rcases k3 mb hk with hk | hk
    · exact h3 hk
    · omega
  · intro k hk; rcases k3 k hk with hk | hk
    · exact h5 k hk
    · have := h6.size; omega
theorem hm_put {w0 w : World} {tb b : Nat} {pr : Int} {l : List (HK × Int)} {m : Mt} (k : HK) (v : Int) (hk : KeyOK k) (h : HM w0 w tb b pr l m) (hln : l.length ≤ 1073741824) :
    Calls Try.prog 38 #[.pointer (some ⟨tb, 0, none⟩), keyV k, .int .u64 v] w fun e w' => e = .returned (.bool (lk l k).isNone) ∧ ∃ b' pr', HM w0 w' tb b' pr' (putL l k v) m ∧ 1 ≤ pr' ∧ pr' ≤ ((2 ^ b : Nat) : Int) := by
  obtain ⟨mb, F, h1, h2, h3, h4, h5, h6⟩ := h
  refine (hash_put k v hk h1 hln).mono ?_
  rintro e w' ⟨rfl, F', b', pr', k1, k2, k3, k4, k5⟩
  exact ⟨rfl, b', pr', hm_put_turn h2 h3 h4 h5 h6 k1 k2 k3, k4, k5⟩
theorem hm_drop {w0 w : World} {tb b : Nat} {pr : Int} {l : List (HK × Int)} {m : Mt} (k : HK) (hk : KeyOK k) (h : HM w0 w tb b pr l m) :
    Calls Try.prog 39 #[.pointer (some ⟨tb, 0, none⟩), keyV k] w fun e w' => e = .returned (.bool (lk l k).isSome) ∧ ∃ b' pr', HM w0 w' tb b' pr' (dropL l k) m ∧ 1 ≤ pr' ∧ pr' ≤ ((2 ^ b : Nat) : Int) := by
  obtain ⟨mb, F, h1, h2, h3, h4, h5, h6⟩ := h
  refine (hash_drop k hk h1).mono ?_
  rintro e w' ⟨rfl, F', b', pr', k1, k2, k3, k4, k5⟩
  exact ⟨rfl, b', pr', hm_put_turn h2 h3 h4 h5 h6 k1 k2 k3, k4, k5⟩
theorem hm_get {w0 w : World} {tb b : Nat} {pr : Int} {l : List (HK × Int)} {m : Mt} (k : HK) (hk : KeyOK k) (h : HM w0 w tb b pr l m) :
    Calls Try.prog 40 #[.pointer (some ⟨tb, 0, none⟩), keyV k] w fun e w' => e = .returned (.tuple #[.int .u64 ((lk l k).getD 0), .bool (lk l k).isSome]) ∧ ∃ pr', HM w0 w' tb b pr' l m.call ∧ 1 ≤ pr' ∧ pr' ≤ ((2 ^ b : Nat) : Int) := by
  obtain ⟨mb, F, h1, h2, h3, h4, h5, h6⟩ := h
  refine (hash_get k hk h1 h2 h3).mono ?_
  rintro e w' ⟨rfl, pr', k1, k2, k3, k4, k5⟩
  exact ⟨rfl, pr', ⟨mb, F, k1, k2, h3, h4, h5, h6.trans (k3.below h6.size (mem_cons_le h4 h5))⟩, k4, k5⟩
theorem hm_len {w0 w : World} {tb b : Nat} {pr : Int} {l : List (HK × Int)} {m : Mt} (h : HM w0 w tb b pr l m) : Calls Try.prog 70 #[.pointer (some ⟨tb, 0, none⟩)] w fun e w' => e = .returned (.int .i64 l.length) ∧ w = w' := by
  obtain ⟨mb, F, h1, _⟩ := h; exact hash_len h1
/-- The same calls, with a block x of another's that stays. -/
theorem hx_put {w0 w : World} {tb b x : Nat} {pr : Int} {l : List (HK × Int)} {m : Mt} (k : HK) (v : Int) (hk : KeyOK k) (h : HMx w0 w tb b pr l m x) (hln : l.length ≤ 1073741824) :
    Calls Try.prog 38 #[.pointer (some ⟨tb, 0, none⟩), keyV k, .int .u64 v] w fun e w' => e = .returned (.bool (lk l k).isNone) ∧ ∃ b' pr', HMx w0 w' tb b' pr' (putL l k v) m x ∧ w'.heap[x]? = w.heap[x]? := by
  obtain ⟨mb, F, h1, h2, h3, h4, h5, h6, h7, h8, h9, h10⟩ := h
  refine (hash_put k v hk h1 hln).mono ?_
  rintro e w' ⟨rfl, F', b', pr', k1, k2, k3, k4, k5⟩
  have hlt := h2.lt
  refine ⟨rfl, b', pr', ⟨mb, F', k1, h2.mod k2 h3, ?_, h4, ?_, h6.trans (k2.below h6.size h5), ?_, h8, h9, Nat.lt_of_lt_of_le h10 k2.size⟩, k2.block x h10 h7⟩
  · intro hk; rcases k3 mb hk with hk | hk
    · exact h3 hk
    · omega
  · intro k hk; rcases k3 k hk with hk | hk
    · exact h5 k hk
    · have := h6.size; omega
  · intro hk; rcases k3 x hk with hk | hk
    · exact h7 hk
    · omega
theorem hx_drop {w0 w : World} {tb b x : Nat} {pr : Int} {l : List (HK × Int)} {m : Mt} (k : HK) (hk : KeyOK k) (h : HMx w0 w tb b pr l m x) :
    Calls Try.prog 39 #[.pointer (some ⟨tb, 0, none⟩), keyV k] w fun e w' => e = .returned (.bool (lk l k).isSome) ∧ ∃ b' pr', HMx w0 w' tb b' pr' (dropL l k) m x ∧ w'.heap[x]? = w.heap[x]? := by
  obtain ⟨mb, F, h1, h2, h3, h4, h5, h6, h7, h8, h9, h10⟩ := h
  refine (hash_drop k hk h1).mono ?_
  rintro e w' ⟨rfl, F', b', pr', k1, k2, k3, k4, k5⟩
  have hlt := h2.lt
  refine ⟨rfl, b', pr', ⟨mb, F', k1, h2.mod k2 h3, ?_, h4, ?_, h6.trans (k2.below h6.size h5), ?_, h8, h9, Nat.lt_of_lt_of_le h10 k2.size⟩, k2.block x h10 h7⟩
  · intro hk; rcases k3 mb hk with hk | hk
    · exact h3 hk
    · omega
  · intro k hk; rcases k3 k hk with hk | hk
    · exact h5 k hk
    · have := h6.size; omega
  · intro hk; rcases k3 x hk with hk | hk
    · exact h7 hk
    · omega
theorem hx_get {w0 w : World} {tb b x : Nat} {pr : Int} {l : List (HK × Int)} {m : Mt} (k : HK) (hk : KeyOK k) (h : HMx w0 w tb b pr l m x) :
    Calls Try.prog 40 #[.pointer (some ⟨tb, 0, none⟩), keyV k] w fun e w' => e = .returned (.tuple #[.int .u64 ((lk l k).getD 0), .bool (lk l k).isSome]) ∧ ∃ pr' m', HMx w0 w' tb b pr' l m' x ∧ w'.heap[x]? = w.heap[x]? := by
  obtain ⟨mb, F, h1, h2, h3, h4, h5, h6, h7, h8, h9, h10⟩ := h
  refine (hash_get k hk h1 h2 h3).mono ?_
  rintro e w' ⟨rfl, pr', k1, k2, k3, k4, k5⟩
  refine ⟨rfl, pr', _, ⟨mb, F, k1, k2, h3, h4, h5, h6.trans (k3.below h6.size (mem_cons_le h4 h5)), h7, h8, h9, Nat.lt_of_lt_of_le h10 k3.size⟩, k3.block x h10 ?_⟩
  simp only [List.mem_cons, not_or]; exact ⟨h8, h7⟩
end Go.Proofs.Ytnbanbfnabhjjaa
