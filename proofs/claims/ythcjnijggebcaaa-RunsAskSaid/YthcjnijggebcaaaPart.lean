/- Parts of slices of whole numbers; a new block of slices. No program in sight. -/
import Derived.Test.YthcjnijggebcaaaLSl
import Derived.Test.YthcjnijggebcaaaAsc
namespace Go.Proofs.Ythcjnijggebcaaa
open Go.RowKit
set_option linter.unusedVariables false
set_option linter.unusedSimpArgs false
section
variable {k : IntKind} {w w' : World} {v : Value} {l : List Int} {ls : List (List Int)}
theorem ISl.take {a : Option Addr} {n cap : Nat} (h : ISl k w (.slice a n cap) l) {i : Nat} (hi : i ≤ n) : ISl k w (.slice a i cap) (l.take i) := by
  obtain ⟨a', cap', he, h1, h2, h3, h4⟩ := h
  injection he with e1 e2 e3; subst e1 e2 e3
  have hl : (l.take i).length = i := by rw [List.length_take]; omega
  refine ⟨a, cap, by rw [hl], by omega, h2, h3, ?_⟩
  rcases h4 with rfl | ⟨b, off, rfl, h5⟩
  · exact .inl (by simp)
  · exact .inr ⟨b, off, rfl, fun j x hx => h5 j x (by
      have : j < i := by have := (List.getElem?_eq_some_iff.1 hx).1; omega
      rwa [List.getElem?_take_of_lt this] at hx)⟩
theorem ISl.drop {b off n cap : Nat} (h : ISl k w (.slice (some ⟨b, off, none⟩) n cap) l) {i : Nat} (hi : i ≤ n) : ISl k w (.slice (some ⟨b, off + i, none⟩) (n - i) (cap - i)) (l.drop i) := by
  obtain ⟨a', cap', he, h1, h2, h3, h4⟩ := h
  injection he with e1 e2 e3; subst e1 e2 e3
  have hl : (l.drop i).length = l.length - i := by rw [List.length_drop]
  refine ⟨_, _, by rw [hl], by omega, by omega, by simp, ?_⟩
  rcases h4 with rfl | ⟨b', off', he, h5⟩
  · exact .inl (by simp)
  · injection he with he
    injection he with h6 h7
    subst h6 h7
    refine .inr ⟨b, off + i, rfl, fun j x hx => ?_⟩
    rw [Nat.add_assoc]
    exact h5 (i + j) x (by rwa [List.getElem?_drop] at hx)
theorem ISl.end_ (k : IntKind) (w : World) (a : Option Addr) (c : Nat) (hc : c ≤ 9223372036854775807) (ha : a = none → c = 0) : ISl k w (.slice a 0 c) [] := ⟨a, c, rfl, Nat.zero_le _, hc, ha, .inl rfl⟩
theorem ISl.one {b t : Nat} {x : Int} (h : Blk w b t #[.int k x]) : ISl k w (.slice (some ⟨b, 0, none⟩) 1 1) [x] :=
  ⟨_, _, rfl, Nat.le_refl _, by omega, by simp, .inr ⟨b, 0, rfl, fun i y hy => by
    have hi : i < 1 := (List.getElem?_eq_some_iff.1 hy).1
    obtain rfl : i = 0 := by omega
    rw [h.cell]; simpa using hy⟩⟩
/-- How a part from i on is spelled: at the very end the place stays. -/
theorem ISl.tail {b off n cap : Nat} (h : ISl k w (.slice (some ⟨b, off, none⟩) n cap) l) {i : Nat} (hi : i ≤ n) (a : Option Addr) (ha : a = some ⟨b, if cap - i = 0 then off else off + i, none⟩) : ISl k w (.slice a (n - i) (cap - i)) (l.drop i) := by
  subst ha
  obtain ⟨a', cap', he, h1, h2, _⟩ := id h
  injection he with e1 e2 e3
  split
  · have hd : l.drop i = [] := List.drop_eq_nil_iff.2 (by omega)
    rw [hd, show n - i = 0 by omega]
    exact ISl.end_ k w _ _ (by omega) (by simp)
  · exact h.drop hi
theorem LSl.two {b t : Nat} {u1 u2 : Value} {l1 l2 : List Int} (hb : Blk w b t #[u1, u2]) (h1 : ISl k w u1 l1) (h2 : ISl k w u2 l2) : LSl k w (.slice (some ⟨b, 0, none⟩) 2 2) [l1, l2] :=
  LSl.of_blk (ls := [l1, l2]) hb (by simp) (by simp) (fun i l hi => by
    match i with
    | 0 => simp at hi; subst hi; exact ⟨u1, rfl, h1⟩
    | 1 => simp at hi; subst hi; exact ⟨u2, rfl, h2⟩
    | i + 2 => simp at hi)
theorem LSl.three {b t : Nat} {u1 u2 u3 : Value} {l1 l2 l3 : List Int} (hb : Blk w b t #[u1, u2, u3]) (h1 : ISl k w u1 l1) (h2 : ISl k w u2 l2) (h3 : ISl k w u3 l3) : LSl k w (.slice (some ⟨b, 0, none⟩) 3 3) [l1, l2, l3] :=
  LSl.of_blk (ls := [l1, l2, l3]) hb (by simp) (by simp) (fun i l hi => by
    match i with
    | 0 => simp at hi; subst hi; exact ⟨u1, rfl, h1⟩
    | 1 => simp at hi; subst hi; exact ⟨u2, rfl, h2⟩
    | 2 => simp at hi; subst hi; exact ⟨u3, rfl, h3⟩
    | i + 3 => simp at hi)
theorem LSl.drew (h : LSl k w v ls) : LSl k w.drew v ls := h
theorem LSl.new2 {b t : Nat} {u1 u2 : Value} {l1 l2 : List Int} (hb : w.heap.size = b) (h1 : ISl k w u1 l1) (h2 : ISl k w u2 l2) : LSl k (w.alloc (.cells #[u1, u2] t)) (.slice (some ⟨b, 0, none⟩) 2 2) [l1, l2] :=
  LSl.two (Blk.new' hb _ _) (h1.alloc _) (h2.alloc _)
theorem LSl.new3 {b t : Nat} {u1 u2 u3 : Value} {l1 l2 l3 : List Int} (hb : w.heap.size = b) (h1 : ISl k w u1 l1) (h2 : ISl k w u2 l2) (h3 : ISl k w u3 l3) : LSl k (w.alloc (.cells #[u1, u2, u3] t)) (.slice (some ⟨b, 0, none⟩) 3 3) [l1, l2, l3] :=
  LSl.three (Blk.new' hb _ _) (h1.alloc _) (h2.alloc _) (h3.alloc _)
theorem ISl.news (h : ISl k w v l) (hm : Mod [] w w') : ISl k w' v l := h.mod hm (fun _ _ => List.not_mem_nil)
end
/-- With a number. -/
def insL (l : List Int) (t : Int) : List Int := l.take (rk l t) ++ [t] ++ l.drop (rk l t)
/-- Without the one at its place. -/
def delL (l : List Int) (t : Int) : List Int := l.take (rk l t) ++ l.drop (rk l t + 1)
section
variable {l : List Int} {t : Int}
theorem insL_mem {x : Int} : x ∈ insL l t ↔ x = t ∨ x ∈ l := by
  unfold insL
  have e : x ∈ l ↔ x ∈ l.take (rk l t) ∨ x ∈ l.drop (rk l t) := by
    rw [← List.mem_append, List.take_append_drop]
  simp only [List.mem_append, List.mem_singleton, e]
  constructor
  · rintro ((h | h) | h)
    · exact .inr (.inl h)
    · exact .inl h
    · exact .inr (.inr h)
  · rintro (h | h | h)
    · exact .inl (.inr h)
    · exact .inl (.inl h)
    · exact .inr h
theorem get_at {l : List Int} {p : Nat} (h : p < l.length) : l.getD p 0 = l[p] := by simp [List.getD_eq_getElem?_getD, List.getElem?_eq_getElem h]
theorem mem_take_lt (hl : l.Pairwise (· ≤ ·)) {x : Int} (hx : x ∈ l.take (rk l t)) : x < t := by
  obtain ⟨p, hp, rfl⟩ := List.getElem_of_mem hx
  rw [List.length_take] at hp
  rw [List.getElem_take, ← get_at (by omega)]
  exact (rk_lt hl (by omega)).1
theorem mem_drop_ge (hl : l.Pairwise (· ≤ ·)) {x : Int} (hx : x ∈ l.drop (rk l t)) : t ≤ x := by
  obtain ⟨p, hp, rfl⟩ := List.getElem_of_mem hx
  rw [List.length_drop] at hp
  rw [List.getElem_drop, ← get_at (by omega)]
  exact rk_ge hl (by omega) (by omega)
theorem insL_rises (hl : l.Pairwise (· < ·)) (ht : t ∉ l) : (insL l t).Pairwise (· < ·) := by
  unfold insL
  have hd : ∀ x ∈ l.drop (rk l t), t < x := fun x hx => by
    have h1 := mem_drop_ge (rises_le hl) hx
    have h2 : x ≠ t := by rintro rfl; exact ht (List.mem_of_mem_drop hx)
    omega
  rw [List.append_assoc, List.pairwise_append]
  refine ⟨hl.sublist (List.take_sublist _ _), ?_, fun x hx y hy => ?_⟩
  · simp only [List.singleton_append, List.pairwise_cons]
    exact ⟨hd, hl.sublist (List.drop_sublist _ _)⟩
  · have h1 := mem_take_lt (rises_le hl) hx
    simp only [List.singleton_append, List.mem_cons] at hy
    rcases hy with rfl | hy
    · exact h1
    · have := hd y hy; omega
theorem insL_asc (hl : l.Pairwise (· < ·)) (ht : t ∉ l) : insL l t = asc (t :: l) :=
  (asc_eq (insL_rises hl ht) (fun x => by rw [insL_mem]; simp)).symm
theorem drop_at (hl : l.Pairwise (· < ·)) (ht : t ∈ l) : l.drop (rk l t) = t :: l.drop (rk l t + 1) := by
  obtain ⟨h1, h2⟩ := (mem_rk (rises_le hl)).1 ht
  rw [get_at h1] at h2
  rw [List.drop_eq_getElem_cons h1, h2]
theorem delL_mem (hl : l.Pairwise (· < ·)) (ht : t ∈ l) {x : Int} : x ∈ delL l t ↔ x ∈ l ∧ x ≠ t := by
  unfold delL
  have hd := drop_at hl ht
  have e : x ∈ l ↔ x ∈ l.take (rk l t) ∨ x ∈ l.drop (rk l t) := by
    rw [← List.mem_append, List.take_append_drop]
  have hp : (t :: l.drop (rk l t + 1)).Pairwise (· < ·) := by rw [← hd]; exact hl.sublist (List.drop_sublist _ _)
  rw [List.pairwise_cons] at hp
  rw [e, hd]
  simp only [List.mem_append, List.mem_cons]
  constructor
  · rintro (h | h)
    · have := mem_take_lt (rises_le hl) h; exact ⟨.inl h, by omega⟩
    · have := hp.1 x h; exact ⟨.inr (.inr h), by omega⟩
  · rintro ⟨h | h | h, hne⟩
    · exact .inl h
    · exact absurd h hne
    · exact .inr h
theorem delL_rises (hl : l.Pairwise (· < ·)) : (delL l t).Pairwise (· < ·) := by
  have : (delL l t).Sublist l := by
    unfold delL
    conv => rhs; rw [← List.take_append_drop (rk l t) l]
    refine List.Sublist.append (List.Sublist.refl _) ?_
    rw [← List.drop_drop]
    exact List.drop_sublist _ _
  exact hl.sublist this
end
/-- Does it rise? -/
def isr (l : List Int) : Bool := decide (∀ i, i < l.length → 0 < i → l.getD (i - 1) 0 < l.getD i 0)
theorem isr_iff {l : List Int} : isr l = true ↔ l.Pairwise (· < ·) := by
  unfold isr
  rw [decide_eq_true_iff]
  constructor
  · intro h
    rw [List.pairwise_iff_getElem]
    intro i j hi hj hij
    induction j with
    | zero => omega
    | succ j ih =>
      have h1 := h (j + 1) hj (by omega)
      rw [Nat.add_sub_cancel, get_at (by omega), get_at hj] at h1
      rcases Nat.lt_or_ge i j with h2 | h2
      · have := ih (by omega) h2; omega
      · have : i = j := by omega
        subst this; exact h1
  · intro h i hi h0
    rw [get_at (show i - 1 < l.length by omega), get_at hi]
    exact List.pairwise_iff_getElem.1 h _ _ (by omega) hi (by omega)
theorem drewN_add (w : World) (q r : Nat) : (w.drewN q).drewN r = w.drewN (q + r) := by simp [World.drewN, Nat.add_assoc]
/-- A new list of numbers, and a Bool. -/
def RowBool (k : IntKind) (e : Nat) (w : World) (yes : Bool) (l : List Int) (f : Ending) (w' : World) : Prop := ∃ v', f = .returned (.tuple #[v', .bool yes]) ∧ WayI k e w w' v' l.length l
/-- A new list of numbers. -/
def RowOnly (k : IntKind) (e : Nat) (w : World) (l : List Int) (f : Ending) (w' : World) : Prop := ∃ v', f = .returned v' ∧ WayI k e w w' v' l.length l
theorem WayI.after {k : IntKind} {e : Nat} {w w1 w' : World} {v : Value} {n : Nat} {l : List Int} (h : WayI k e w1 w' v n l) (hm : Mod [] w w1) : WayI k e w w' v n l :=
  ⟨h.row, hm.trans h.mod (by simp), fun b hb => Nat.le_trans hm.size (h.ge b hb)⟩
/-- The k-th, if there is one. -/
def selL (l : List Int) (k : Int) : Int × Bool := if 0 ≤ k ∧ k < l.length then (l.getD k.toNat 0, true) else (0, false)
theorem selL_no {l : List Int} {k : Int} (h : ¬ (0 ≤ k ∧ k < l.length)) : selL l k = (0, false) := if_neg h
theorem selL_yes {l : List Int} {k : Nat} (h : k < l.length) : selL l (k : Int) = (l.getD k 0, true) := by unfold selL; rw [if_pos ⟨by omega, by omega⟩]; rfl
/-- A number and a Bool. -/
def IntBool (k : IntKind) (r : Int × Bool) (f : Ending) : Prop := f = .returned (.tuple #[.int k r.1, .bool r.2])
section
variable {k : IntKind} {w w' : World} {v : Value} {l : List Int}
theorem ISl.cons {x : Int} (h : ISl k w v (x :: l)) : ∃ b off cap, v = .slice (some ⟨b, off, none⟩) (l.length + 1) cap ∧ l.length + 1 ≤ cap ∧ cap ≤ 9223372036854775807 ∧ w.cell? ⟨b, off, none⟩ = some (.int k x) ∧
    ISl k w (.slice (if cap = 1 then some ⟨b, off, none⟩ else some ⟨b, off + 1, none⟩) l.length (cap - 1)) l := by
  obtain ⟨b, off, cap, rfl, h1, h2, hb, hc⟩ := h.at_ (by simp)
  refine ⟨b, off, cap, rfl, by simpa using h1, h2, by simpa using hc 0 x rfl, ?_⟩
  have ht := h.tail (i := 1) (by simp) (if cap = 1 then some ⟨b, off, none⟩ else some ⟨b, off + 1, none⟩) (by
    simp at h1
    by_cases hc : cap = 1
    · rw [if_pos hc, if_pos (by omega)]
    · rw [if_neg hc, if_neg (by omega)])
  simpa using ht
theorem ISl.none_ (h : ISl k w v []) : ∃ a cap, v = .slice a 0 cap ∧ cap ≤ 9223372036854775807 := by
  obtain ⟨a, cap, rfl, _, h2, _⟩ := h; exact ⟨a, cap, rfl, h2⟩
end
/-- One step of merging: what sort, which number, what is left. -/
def mst : List Int → List Int → Option (Nat × Int × List Int × List Int)
  | [], [] => none
  | x :: a, [] => some (1, x, a, [])
  | [], y :: b => some (2, y, [], b)
  | x :: a, y :: b => if x < y then some (1, x, a, y :: b) else if y < x then some (2, y, x :: a, b) else some (4, x, a, b)
/-- Merging: f tells of each sort whether it is taken. -/
def mgF (f : Nat → Bool) : Nat → List Int → List Int → List Int
  | 0, _, _ => []
  | n + 1, a, b => match mst a b with
    | none => []
    | some (k, v, a', b') => if f k then v :: mgF f n a' b' else mgF f n a' b'
def mg (f : Nat → Bool) (a b : List Int) : List Int := mgF f (a.length + b.length + 1) a b
theorem mst_less {a b : List Int} {k : Nat} {v : Int} {a' b' : List Int} (h : mst a b = some (k, v, a', b')) : a'.length + b'.length + 1 ≤ a.length + b.length := by
  match a, b with
  | [], [] => simp [mst] at h
  | x :: a, [] => simp [mst] at h; obtain ⟨_, _, rfl, rfl⟩ := h; simp
  | [], y :: b => simp [mst] at h; obtain ⟨_, _, rfl, rfl⟩ := h; simp
  | x :: a, y :: b =>
    simp only [mst] at h
    split at h
    · injection h with h; injection h with _ h; injection h with _ h; injection h with h1 h2; subst h1 h2; simp; omega
    · split at h
      · injection h with h; injection h with _ h; injection h with _ h; injection h with h1 h2; subst h1 h2; simp; omega
      · injection h with h; injection h with _ h; injection h with _ h; injection h with h1 h2; subst h1 h2; simp; omega
theorem mgF_more (f : Nat → Bool) : ∀ (n m : Nat) (a b : List Int), a.length + b.length < n → a.length + b.length < m → mgF f n a b = mgF f m a b
  | 0, _, _, _, h, _ => by omega
  | _ + 1, 0, _, _, _, h => by omega
  | n + 1, m + 1, a, b, h1, h2 => by
    simp only [mgF]
    cases hm : mst a b with
    | none => rfl
    | some p =>
      obtain ⟨k, v, a', b'⟩ := p
      have := mst_less hm
      simp only
      rw [mgF_more f n m a' b' (by omega) (by omega)]
theorem mg_none {f : Nat → Bool} {a b : List Int} (h : mst a b = none) : mg f a b = [] := by unfold mg; simp only [mgF, h]
theorem mg_take {f : Nat → Bool} {a b : List Int} {k : Nat} {v : Int} {a' b' : List Int} (h : mst a b = some (k, v, a', b')) (hf : f k = true) : mg f a b = v :: mg f a' b' := by
  have := mst_less h
  unfold mg
  rw [mgF, h]
  simp only
  rw [if_pos hf, mgF_more f _ (a'.length + b'.length + 1) a' b' (by omega) (by omega)]
theorem mg_skip {f : Nat → Bool} {a b : List Int} {k : Nat} {v : Int} {a' b' : List Int} (h : mst a b = some (k, v, a', b')) (hf : f k = false) : mg f a b = mg f a' b' := by
  have := mst_less h
  unfold mg
  rw [mgF, h]
  simp only
  rw [if_neg (by simp [hf]), mgF_more f _ (a'.length + b'.length + 1) a' b' (by omega) (by omega)]
theorem mg_len (f : Nat → Bool) : ∀ (n : Nat) (a b : List Int), a.length + b.length ≤ n → (mg f a b).length ≤ a.length + b.length := by
  intro n
  induction n with
  | zero =>
    intro a b h
    have ha : a = [] := List.eq_nil_of_length_eq_zero (by omega)
    have hb : b = [] := List.eq_nil_of_length_eq_zero (by omega)
    subst ha hb
    rw [mg_none rfl]; simp
  | succ n ih =>
    intro a b h
    cases hm : mst a b with
    | none => rw [mg_none hm]; simp
    | some p =>
      obtain ⟨k, v, a', b'⟩ := p
      have hl := mst_less hm
      have := ih a' b' (by omega)
      cases hf : f k with
      | true => rw [mg_take hm hf]; simp; omega
      | false => rw [mg_skip hm hf]; omega
/-- What is merged: of the first alone, of the second alone, of both; rising. -/
theorem mg_spec (f : Nat → Bool) : ∀ (n : Nat) (a b : List Int), a.length + b.length ≤ n → a.Pairwise (· < ·) → b.Pairwise (· < ·) →
    (mg f a b).Pairwise (· < ·) ∧ ∀ x, x ∈ mg f a b ↔ (x ∈ a ∧ x ∉ b ∧ f 1 = true) ∨ (x ∉ a ∧ x ∈ b ∧ f 2 = true) ∨ (x ∈ a ∧ x ∈ b ∧ f 4 = true) := by
  have key : ∀ {k : Nat} {v : Int} {a b a' b' : List Int}, mst a b = some (k, v, a', b') → a.Pairwise (· < ·) → b.Pairwise (· < ·) →
      a'.Pairwise (· < ·) ∧ b'.Pairwise (· < ·) ∧ (∀ x, (x ∈ a' ∨ x ∈ b') → v < x) ∧ (∀ x, x ≠ v → ((x ∈ a ↔ x ∈ a') ∧ (x ∈ b ↔ x ∈ b'))) ∧
      ((k = 1 ∧ v ∈ a ∧ v ∉ b) ∨ (k = 2 ∧ v ∉ a ∧ v ∈ b) ∨ (k = 4 ∧ v ∈ a ∧ v ∈ b)) := by
    intro k v a b a' b' h ha hb
    match a, b with
    | [], [] => simp [mst] at h
    | x :: a, [] =>
      simp [mst] at h
      obtain ⟨rfl, rfl, rfl, rfl⟩ := h
      rw [List.pairwise_cons] at ha
      refine ⟨ha.2, hb, fun y hy => ?_, fun y hy => ?_, .inl ⟨rfl, by simp, by simp⟩⟩
      · rcases hy with hy | hy
        · exact ha.1 y hy
        · simp at hy
      · simp [hy]
    | [], y :: b =>
      simp [mst] at h
      obtain ⟨rfl, rfl, rfl, rfl⟩ := h
      rw [List.pairwise_cons] at hb
      refine ⟨ha, hb.2, fun z hz => ?_, fun z hz => ?_, .inr (.inl ⟨rfl, by simp, by simp⟩)⟩
      · rcases hz with hz | hz
        · simp at hz
        · exact hb.1 z hz
      · simp [hz]
    | x :: a, y :: b =>
      have ha0 := ha
      have hb0 := hb
      rw [List.pairwise_cons] at ha hb
      simp only [mst] at h
      split at h
      · rename_i hxy
        injection h with h; injection h with h1 h; injection h with h2 h; injection h with h3 h4; subst h1 h2 h3 h4
        have hnb : x ∉ y :: b := by
          intro hm
          rcases List.mem_cons.1 hm with h | h
          · omega
          · have := hb.1 x h; omega
        refine ⟨ha.2, hb0, fun z hz => ?_, fun z hz => ?_, .inl ⟨rfl, by simp, hnb⟩⟩
        · rcases hz with hz | hz
          · exact ha.1 z hz
          · rcases List.mem_cons.1 hz with h | h
            · omega
            · have := hb.1 z h; omega
        · simp [hz]
      · split at h
        · rename_i hxy hyx
          injection h with h; injection h with h1 h; injection h with h2 h; injection h with h3 h4; subst h1 h2 h3 h4
          have hna : y ∉ x :: a := by
            intro hm
            rcases List.mem_cons.1 hm with h | h
            · omega
            · have := ha.1 y h; omega
          refine ⟨ha0, hb.2, fun z hz => ?_, fun z hz => ?_, .inr (.inl ⟨rfl, hna, by simp⟩)⟩
          · rcases hz with hz | hz
            · rcases List.mem_cons.1 hz with h | h
              · omega
              · have := ha.1 z h; omega
            · exact hb.1 z hz
          · simp [hz]
        · rename_i hxy hyx
          injection h with h; injection h with h1 h; injection h with h2 h; injection h with h3 h4; subst h1 h2 h3 h4
          have e : x = y := by omega
          subst e
          refine ⟨ha.2, hb.2, fun z hz => ?_, fun z hz => ?_, .inr (.inr ⟨rfl, by simp, by simp⟩)⟩
          · rcases hz with hz | hz
            · exact ha.1 z hz
            · exact hb.1 z hz
          · simp [hz]
  intro n
  induction n with
  | zero =>
    intro a b h ha hb
    have ha : a = [] := List.eq_nil_of_length_eq_zero (by omega)
    have hb : b = [] := List.eq_nil_of_length_eq_zero (by omega)
    subst ha hb
    rw [mg_none rfl]; simp
  | succ n ih =>
    intro a b h ha hb
    cases hm : mst a b with
    | none =>
      match a, b with
      | [], [] => rw [mg_none rfl]; simp
      | x :: a, [] => simp [mst] at hm
      | [], y :: b => simp [mst] at hm
      | x :: a, y :: b => simp only [mst] at hm; split at hm; cases hm; split at hm <;> cases hm
    | some p =>
      obtain ⟨k, v, a', b'⟩ := p
      obtain ⟨ha', hb', hlt, hoth, hk⟩ := key hm ha hb
      have hl := mst_less hm
      obtain ⟨i1, i2⟩ := ih a' b' (by omega) ha' hb'
      have hv : ∀ x, x ∈ mg f a' b' → v < x := fun x hx => by
        rcases (i2 x).1 hx with h | h | h
        · exact hlt x (.inl h.1)
        · exact hlt x (.inr h.2.1)
        · exact hlt x (.inl h.1)
      have hva : v ∉ a' := fun h => by have := hlt v (.inl h); omega
      have hvb : v ∉ b' := fun h => by have := hlt v (.inr h); omega
      cases hf : f k with
      | true =>
        rw [mg_take hm hf]
        refine ⟨List.pairwise_cons.2 ⟨hv, i1⟩, fun x => ?_⟩
        by_cases hx : x = v
        · subst hx
          simp only [List.mem_cons, true_or, true_iff]
          rcases hk with ⟨rfl, h1, h2⟩ | ⟨rfl, h1, h2⟩ | ⟨rfl, h1, h2⟩
          · exact .inl ⟨h1, h2, hf⟩
          · exact .inr (.inl ⟨h1, h2, hf⟩)
          · exact .inr (.inr ⟨h1, h2, hf⟩)
        · rw [(hoth x hx).1, (hoth x hx).2, ← i2 x]
          simp [hx]
      | false =>
        rw [mg_skip hm hf]
        refine ⟨i1, fun x => ?_⟩
        by_cases hx : x = v
        · subst hx
          have h0 : x ∉ mg f a' b' := fun h => by have := hv x h; omega
          simp only [h0, false_iff]
          rcases hk with ⟨rfl, h1, h2⟩ | ⟨rfl, h1, h2⟩ | ⟨rfl, h1, h2⟩
          · simp [h1, h2, hf]
          · simp [h1, h2, hf]
          · simp [h1, h2, hf]
        · rw [(hoth x hx).1, (hoth x hx).2, ← i2 x]
theorem mst_kind {a b : List Int} {k : Nat} {v : Int} {a' b' : List Int} (h : mst a b = some (k, v, a', b')) : k = 1 ∨ k = 2 ∨ k = 4 := by
  match a, b with
  | [], [] => simp [mst] at h
  | x :: a, [] => simp [mst] at h; exact .inl h.1.symm
  | [], y :: b => simp [mst] at h; exact .inr (.inl h.1.symm)
  | x :: a, y :: b =>
    simp only [mst] at h
    split at h
    · injection h with h; injection h with h; exact .inl h.symm
    · split at h
      · injection h with h; injection h with h; exact .inr (.inl h.symm)
      · injection h with h; injection h with h; exact .inr (.inr h.symm)
/-- A slice's length. -/
def slen : Value → Nat
  | .slice _ n _ => n
  | _ => 0
theorem slen_slice (a : Option Addr) (n c : Nat) : slen (.slice a n c) = n := rfl
theorem mst_l (x : Int) (a : List Int) : mst (x :: a) [] = some (1, x, a, []) := rfl
theorem mst_r (y : Int) (b : List Int) : mst [] (y :: b) = some (2, y, [], b) := rfl
theorem mst_1 {x y : Int} (a b : List Int) (h : x < y) : mst (x :: a) (y :: b) = some (1, x, a, y :: b) := by simp only [mst]; rw [if_pos h]
theorem mst_2 {x y : Int} (a b : List Int) (h1 : ¬ x < y) (h : y < x) : mst (x :: a) (y :: b) = some (2, y, x :: a, b) := by simp only [mst]; rw [if_neg h1, if_pos h]
theorem mst_4 {x y : Int} (a b : List Int) (h1 : ¬ x < y) (h : ¬ y < x) : mst (x :: a) (y :: b) = some (4, x, a, b) := by simp only [mst]; rw [if_neg h1, if_neg h]
theorem ISl.of_blk {k : IntKind} {w : World} {b t : Nat} {l : List Int} (hb : Blk w b t (icells k l).toArray) (hl : l.length ≤ 1000000) : ISl k w (.slice (some ⟨b, 0, none⟩) l.length l.length) l :=
  ⟨_, _, rfl, Nat.le_refl _, by omega, by simp, .inr ⟨b, 0, rfl, fun i x hx => by
    rw [Nat.zero_add, hb.cell]
    have := icells_get (k := k) hx
    simpa using this⟩⟩
theorem wf_u16 {x : Int} (h : (Lit.int .u16 x).wf = true) : 0 ≤ x ∧ x < 65536 := by
  simp only [Lit.wf, decide_eq_true_eq, Bool.and_eq_true] at h
  have h1 : IntKind.min .u16 = 0 := by decide
  have h2 : IntKind.max .u16 = 65535 := by decide
  rw [h1, h2] at h
  omega
theorem wf_u64 {x : Int} (h : (Lit.int .u64 x).wf = true) : 0 ≤ x ∧ x ≤ 18446744073709551615 := by
  simp only [Lit.wf, decide_eq_true_eq, Bool.and_eq_true] at h
  have h1 : IntKind.min .u64 = 0 := by decide
  have h2 : IntKind.max .u64 = 18446744073709551615 := by decide
  rw [h1, h2] at h
  exact h
end Go.Proofs.Ythcjnijggebcaaa
