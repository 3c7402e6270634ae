/- The pool of uint64 behind one word, for those that build on it. -/
import Derived.Test.YtnbanbfnabhjjaaClear
namespace Go.Proofs.Ytnbanbfnabhjjaa
open Go.RowKit
set_option linter.unusedVariables false
set_option linter.unusedSimpArgs false

section
variable {w : World} {pb mb : Nat} {F : List Nat} {s s' : PS Int} {i : Nat} {ok : Bool}
/-- What a call that turns an object leaves: the object's blocks are its old ones or new. -/
def Fresh (w : World) (F F' : List Nat) : Prop := ∀ k ∈ F', k ∈ F ∨ w.heap.size ≤ k
theorem Fresh.refl (w : World) (F : List Nat) : Fresh w F F := fun k hk => .inl hk
/-- Another object's blocks stay apart. -/
theorem Fresh.apart {w : World} {F F' G : List Nat} (h : Fresh w F F') (hG : ∀ k ∈ G, k < w.heap.size) (hd : ∀ k ∈ G, k ∉ F) : ∀ k ∈ G, k ∉ F' := by
  intro k hk hk'
  rcases h k hk' with h1 | h1
  · exact hd k hk h1
  · have := hG k hk; omega
theorem Fresh.not_mem {w : World} {F F' : List Nat} {x : Nat} (h : Fresh w F F') (hx : x < w.heap.size) (hd : x ∉ F) : x ∉ F' := fun hk => by
  rcases h x hk with h1 | h1
  · exact hd h1
  · omega
theorem Fresh.ge {w : World} {F F' : List Nat} {B : Nat} (h : Fresh w F F') (hB : B ≤ w.heap.size) (hF : ∀ k ∈ F, B ≤ k) : ∀ k ∈ F', B ≤ k := by
  intro k hk
  rcases h k hk with h1 | h1
  · exact hF k h1
  · omega
theorem pool_fresh {cv fv cv' fv' : Value} (h : ∀ k ∈ rb cv' ++ rb fv', k ∈ rb cv ++ rb fv ∨ w.heap.size ≤ k) : Fresh w (pb :: (rb cv ++ rb fv)) (pb :: (rb cv' ++ rb fv')) := by
  intro k hk
  rcases List.mem_cons.1 hk with rfl | hk
  · exact .inl (by simp)
  · rcases h k hk with h1 | h1
    · exact .inl (List.mem_cons_of_mem _ h1)
    · exact .inr h1
theorem pa_alloc (v : Int) (h : PoolAt TU w pb mb F s) (hs : s.alloc v = (s', i, ok)) :
    Calls Try.prog 18 #[.pointer (some ⟨pb, 0, none⟩), .int .u64 v] w fun e w' => e = .returned (.tuple #[.int .i64 i, .bool ok]) ∧ ∃ F', PoolAt TU w' pb mb F' s' ∧ Mod F w w' ∧ Fresh w F F' := by
  have h0 := h
  obtain ⟨cv, fv, rfl, h1⟩ := h
  unfold PS.alloc at hs
  split at hs
  · rename_i hl
    injection hs with e1 hs; injection hs with e2 e3; subst e1 e2 e3
    unfold PS.nextAt
    cases hg : s.free.getLast? with
    | none =>
      have hnil : s.free = [] := by simpa using hg
      refine (poolU_alloc_new pb mb cv fv s v w h1 hl hnil).mono ?_
      rintro e w' ⟨rfl, cv', fv', k1, k2, k3⟩
      exact ⟨rfl, _, ⟨cv', fv', rfl, k1⟩, k2, pool_fresh k3⟩
    | some i =>
      refine (poolU_alloc_re pb mb cv fv s v i w h1 hl hg).mono ?_
      rintro e w' ⟨rfl, cv', fv', k1, k2, k3⟩
      exact ⟨rfl, _, ⟨cv', fv', rfl, k1⟩, k2, pool_fresh k3⟩
  · rename_i hl
    injection hs with e1 hs; injection hs with e2 e3; subst e1 e2 e3
    refine (poolU_alloc_full pb mb cv fv s v w h1 hl).mono ?_
    rintro e w' ⟨rfl, k1⟩
    exact ⟨rfl, _, h0.mod k1 (by simp), k1.mono (by simp), Fresh.refl _ _⟩
theorem pa_free (i : Nat) {v : Int} (h : PoolAt TU w pb mb F s) (hg : s.get (i : Int) = some v) :
    Calls Try.prog 22 #[.pointer (some ⟨pb, 0, none⟩), .int .i64 i] w fun e w' => e = .returned (.bool true) ∧ ∃ F', PoolAt TU w' pb mb F' (s.drop i) ∧ Mod F w w' ∧ Fresh w F F' := by
  obtain ⟨cv, fv, rfl, h1⟩ := h
  refine (poolU_free_yes pb mb cv fv s i v w h1 hg).mono ?_
  rintro e w' ⟨rfl, cv', fv', k1, k2, k3⟩
  exact ⟨rfl, _, ⟨cv', fv', rfl, k1⟩, k2, pool_fresh k3⟩
theorem pa_put (i : Nat) {u : Int} (v : Int) (h : PoolAt TU w pb mb F s) (hg : s.get (i : Int) = some u) :
    Calls Try.prog 27 #[.pointer (some ⟨pb, 0, none⟩), .int .i64 i, .int .u64 v] w fun e w' => e = .returned (.bool true) ∧ PoolAt TU w' pb mb F (s.put i v) ∧ Mod F w w' := by
  obtain ⟨cv, fv, rfl, h1⟩ := h
  refine (poolU_put_yes pb mb cv fv s i v u w h1 hg).mono ?_
  rintro e w' ⟨rfl, k1, k2⟩
  exact ⟨rfl, ⟨cv, fv, rfl, by simpa using k1⟩, k2⟩
theorem pa_at {m : Mt} (i : Int) (h : PoolAt TU w pb mb F s) (hm : MeterAt w mb m) (hmF : mb ∉ F) :
    Calls Try.prog 23 #[.pointer (some ⟨pb, 0, none⟩), .int .i64 i] w fun e w' => e = .returned (.tuple #[.int .u64 ((s.get i).getD 0), .bool (s.get i).isSome]) ∧
      PoolAt TU w' pb mb F s ∧ MeterAt w' mb (if (s.get i).isSome then m.read else m) ∧ Mod [mb] w w' := by
  have h0 := h
  obtain ⟨cv, fv, rfl, h1⟩ := h
  refine (poolU_at pb mb cv fv s m i w h1 hm).mono ?_
  rintro e w' ⟨rfl, k1, k2⟩
  exact ⟨rfl, h0.mod k2 (by simpa using hmF), k1, k2⟩
theorem pa_len (h : PoolAt TU w pb mb F s) : Calls Try.prog 19 #[.pointer (some ⟨pb, 0, none⟩)] w fun e w' => e = .returned (.int .i64 s.live) ∧ w = w' := by
  obtain ⟨cv, fv, rfl, h1⟩ := h; exact poolU_len pb mb cv fv s w h1
theorem pa_room (n : Int) (h : PoolAt TU w pb mb F s) : Calls Try.prog 20 #[.pointer (some ⟨pb, 0, none⟩), .int .i64 n] w fun e w' => e = .returned (.bool (decide (n ≤ (s.limit : Int) - s.live))) ∧ Mod [] w w' := by
  obtain ⟨cv, fv, rfl, h1⟩ := h; exact poolU_room pb mb cv fv s n w h1
theorem pa_clear (h : PoolAt TU w pb mb F s) : Calls Try.prog 25 #[.pointer (some ⟨pb, 0, none⟩)] w fun e w' => e = .returned (.tuple #[]) ∧ ∃ F', PoolAt TU w' pb mb F' (PS.empty s.limit) ∧ Mod F w w' ∧ Fresh w F F' := by
  obtain ⟨cv, fv, rfl, h1⟩ := h
  refine (poolU_clear pb mb cv fv s w h1).mono ?_
  rintro e w' ⟨rfl, k1, k2⟩
  exact ⟨rfl, _, ⟨_, _, rfl, k1⟩, k2, fun k hk => .inl (by simp [rb, Value.ownBlock] at hk; simp [hk])⟩
end
end Go.Proofs.Ytnbanbfnabhjjaa
