/- law05.all: the first of the table's entries, rising, in a row of the caller's own. -/
import Derived.Test.YtnbanbfnabhjjaaHashAll
import Derived.Test.YtnbanbfnabhjjaaHashNil
import Derived.Test.YtnbanbfnabhjjaaRound
namespace Go.Proofs.Ytnbanbfnabhjjaa
open Go.RowKit Go.Shelf
attribute [local go_sem] Oper.semAt_some
set_option linter.unusedVariables false
set_option linter.unusedSimpArgs false
theorem wpListIn_app {F : Fence} {N : Nat} {P : Program} {w : World} {ops : Array Oper} {rest : List Oper} {o : Oper} {a : Act} {Q : Exit → Act → World → Prop} (hgd : o.guard = none) (s x : Operand) (t : TypeId)
    (ho : o.op = .call { callee := .builtin .append, args := #[s, x], argTypes := #[t, t] })
    (e : TypeId) (z : Value) (size bytes : Nat) (ht : P.underlying t = some (.slice e)) (hi : (P.info? e).map (fun i => (i.zero, i.size, i.bytes)) = some (some z, size, bytes))
    (hzs : z.cells.size = size) (hsz : 0 < size)
    (v : Value) (n : Nat) (xs : List Value) (hs : a.eval s = v) (hown : Row w e size v n xs)
    (ad : Addr) (m c : Nat) (news : List Value) (hx : a.eval x = .slice (some ad) m c) (hl : news.length = m * size) (hnews : ∀ j u, news[j]? = some u → w.cell? (ad.add j) = some u) (h1 : ∀ u ∈ news, u.oneCell' = true)
    (h63 : n + m ≤ 9223372036854775807) (hbytes : (n + m) * bytes ≤ 140737488355328)
    (h : ∀ b cap w', Row w' e size (.slice b (n + m) cap) (n + m) (xs ++ news) → Mod (rb v) w w' → (∀ k ∈ rb (.slice b (n + m) cap), k ∈ rb v ∨ w.heap.size ≤ k) → wpListIn F N P ops Q rest (a.put o.dst (.slice b (n + m) cap)) w') : wpListIn F N P ops Q (o :: rest) a w := by
  obtain ⟨i, hi', hz, hsize, hby⟩ := info_parts hi
  obtain ⟨v', w', hr, h2, h3, h4⟩ := append_where (P := P) (w := w) t o.type e i z size bytes ht hi' hz hsize hby hzs hsz v n xs hown ad m c news hl hnews h1 h63 hbytes
  obtain ⟨b, cap, rfl, _⟩ := h2.slice_
  refine wpListIn_plain hgd (fun K hK => ⟨?_, ?_⟩)
  · simp [Oper.about, ho, resolve, Target.leads, Sem.run_pure]
  · rw [Oper.semAt_plain F _ _ (by rw [ho]; intro c hc'; cases hc')]
    simp [execOp, ho, resolve, invoke, builtin, hs, hx, hr, Result.andThen]
    exact hK _ _ (h b cap w' h2 h3 h4)
def encT (e : HK × Int) : List Value := [.int .u8 e.1.1, .int .u64 e.1.2, .int .u64 e.2]
theorem entT_info : (Try.prog.info? 149).map (fun i => (i.zero, i.size, i.bytes)) = some (some (.agg #[.int .u8 0, .int .u64 0, .int .u64 0]), 3, 24) := by kernel_rfl
/-- What the range's body knows of the caller's own blocks. -/
structure AllIn (w0 W : World) (q : Nat) (most : Int) (pre : List (HK × Int)) : Prop where
  hm : Blk W q 3 #[.int .i64 most]
  ex : ∃ b cap, Blk W (q + 1) 99 #[.slice b pre.length cap] ∧ Row W 149 3 (.slice b pre.length cap) pre.length (pre.flatMap encT) ∧ (∀ k ∈ rb (.slice b pre.length cap), w0.heap.size ≤ k)
  below : Below w0.heap.size w0 W
theorem AllIn.own {w0 A B : World} {q : Nat} {most : Int} {pre : List (HK × Int)} {row : Option Nat} {n0 : Nat} (h : AllIn w0 A q most pre) (hg : A.grownBy B row) (hr : ∀ r, row = some r → n0 ≤ r ∧ ∃ o : Obj, A.heap[r]? = some o ∧ o.isCells = false) (hn : w0.heap.size ≤ n0) : AllIn w0 B q most pre := by
  have hk : KpC [] A B := by
    refine ⟨hg.size, fun k o _ h1 h2 => ?_⟩
    refine (hg.block k (Array.getElem?_eq_some_iff.1 h1).1 (fun e => ?_)).trans h1
    obtain ⟨_, o', h3, h4⟩ := hr k e.symm
    rw [h1] at h3; injection h3 with h3; subst h3; rw [h4] at h2; cases h2
  obtain ⟨b, cap, h2, h3, h4⟩ := h.ex
  exact ⟨h.hm.kp hk (by simp), ⟨b, cap, h2.kp hk (by simp), h3.kp hk (by simp), h4⟩, (ownFrom_below (β := Unit) (n₀ := w0.heap.size) (B := n0) (Nat.le_refl _) hn) () A B row h.below hg hr⟩
theorem AllIn.mod0 {w0 A B : World} {q : Nat} {most : Int} {pre : List (HK × Int)} (h : AllIn w0 A q most pre) (hm : Mod [] A B) : AllIn w0 B q most pre := by
  obtain ⟨b, cap, h2, h3, h4⟩ := h.ex
  exact ⟨h.hm.mod hm (by simp), ⟨b, cap, h2.mod hm (by simp), h3.mod hm (by simp), h4⟩, h.below.trans (hm.below h.below.size (by simp))⟩
theorem blk_own {A B : World} {b t : Nat} {cs : Array Value} {row : Option Nat} {n0 : Nat} (h : Blk A b t cs) (hg : A.grownBy B row) (hr : ∀ r, row = some r → n0 ≤ r ∧ ∃ o : Obj, A.heap[r]? = some o ∧ o.isCells = false) : Blk B b t cs := by
  refine (hg.block b h.lt (fun e => ?_)).trans h
  obtain ⟨_, o', h3, h4⟩ := hr b e.symm
  unfold Blk at h
  rw [h] at h3; injection h3 with h3; subst h3; cases h4
theorem KpT.of_row {t sz n : Nat} {C : List Nat} {W W' : World} {v : Value} {xs : List Value} (h : Row W t sz v n xs) (hm : Mod (rb v) W W') : KpT t C W W' := by
  refine ⟨hm.size, fun k cs e fz hk he h1 => (hm.block k (Array.getElem?_eq_some_iff.1 h1).1 (fun hkv => ?_)).trans h1⟩
  rcases h.2 with ⟨rfl, _⟩ | ⟨g, cap, cur, rfl, _, hgg, _⟩
  · simp [rb, Value.ownBlock] at hkv
  · simp [rb, Value.ownBlock] at hkv; subst hkv
    rw [hgg] at h1; injection h1 with h1; injection h1 with _ h1 _; exact he h1.symm
theorem keeps_row {t sz n : Nat} {W W' : World} {v : Value} {xs : List Value} (h : Row W t sz v n xs) (hm : Mod (rb v) W W') : KeepsOthers W W' := by
  refine ⟨hm.size, fun k o h1 ho => (hm.block k (Array.getElem?_eq_some_iff.1 h1).1 (fun hkv => ?_)).trans h1⟩
  rcases h.2 with ⟨rfl, _⟩ | ⟨g, cap, cur, rfl, _, hgg, _⟩
  · simp [rb, Value.ownBlock] at hkv
  · simp [rb, Value.ownBlock] at hkv; subst hkv
    rw [hgg] at h1; injection h1 with h1; subst h1; cases ho
theorem keeps_mod0 {W W' : World} (hm : Mod [] W W') : KeepsOthers W W' := ⟨hm.size, fun k o h1 _ => (hm.block k (Array.getElem?_eq_some_iff.1 h1).1 (by simp)).trans h1⟩
theorem all_next {w0 W W1 w5 : World} {q most n0 : Nat} {pre : List (HK × Int)} {b b5 : Option Addr} {cap c5 : Nat} (x : HK × Int) (hI : AllIn w0 W q most pre) (hm1 : Mod [] W W1) (hR : Row W1 149 3 (.slice b pre.length cap) pre.length (pre.flatMap encT))
    (hge : ∀ k ∈ rb (.slice b pre.length cap), w0.heap.size ≤ k) (hr5 : Row w5 149 3 (.slice b5 (pre.length + 1) c5) (pre.length + 1) (pre.flatMap encT ++ encT x)) (hm5 : Mod (rb (.slice b pre.length cap)) W1 w5)
    (hf5 : ∀ k ∈ rb (.slice b5 (pre.length + 1) c5), k ∈ rb (.slice b pre.length cap) ∨ W1.heap.size ≤ k) (o5 : Blk w5 (q + 1) 99 #[.slice b pre.length cap]) (m5 : Blk w5 q 3 #[.int .i64 most]) (hq : w0.heap.size ≤ q) :
    KeepsFrom n0 W (w5.setCell ⟨q + 1, 0, none⟩ (.slice b5 (pre.length + 1) c5)) ∧ KpT 149 [q + 1] W (w5.setCell ⟨q + 1, 0, none⟩ (.slice b5 (pre.length + 1) c5)) ∧
      AllIn w0 (w5.setCell ⟨q + 1, 0, none⟩ (.slice b5 (pre.length + 1) c5)) q most (pre ++ [x]) := by
  have hs : Mod [q + 1] w5 (w5.setCell ⟨q + 1, 0, none⟩ (.slice b5 (pre.length + 1) c5)) := (Mod.refl _ w5).set (.inl (by simp)) _
  refine ⟨((keeps_mod0 hm1).trans ((keeps_row hR hm5).trans (KeepsOthers.setCell _ _ _))).from _, (KpT.of_mod hm1 (by simp)).trans ((KpT.of_row hR hm5).trans (KpT.of_mod hs (by simp))), ⟨m5.far (by show q ≠ q + 1; omega) _, ⟨b5, c5, ?_, ?_, ?_⟩, ?_⟩⟩
  · rw [List.length_append]; simpa using o5.set 0 (.slice b5 (pre.length + 1) c5)
  · have e : (pre ++ [x]).length = pre.length + 1 := by simp
    rw [e, show (pre ++ [x]).flatMap encT = pre.flatMap encT ++ encT x from by simp [List.flatMap_append]]
    exact hr5.mod hs (fun k hk hk' => by simp at hk'; subst hk'; exact (hr5.ty o5 (by decide)) hk)
  · have e : (pre ++ [x]).length = pre.length + 1 := by simp
    rw [e]
    intro k hk
    rcases hf5 k hk with h | h
    · exact hge k h
    · have h1 := hI.below.size; have h2 := hm1.size; omega
  · exact (hI.below.trans (hm1.below hI.below.size (by simp))).trans ((hm5.below (by have h1 := hI.below.size; have h2 := hm1.size; omega) hge).trans (hs.below (by have h1 := hI.below.size; have h2 := hm1.size; have h3 := hm5.size; omega) (by simp; omega)))
def AxT (w : World) (tb most : Nat) (x : HK × Int) (a' : Act) (W : World) : Prop := ∃ kb, a' = { tmps := #[.pointer (some ⟨tb, 0, none⟩), .int .i64 most, undef, .pointer (some ⟨w.heap.size, 0, none⟩), .slice none 0 0, .pointer (some ⟨w.heap.size + 1, 0, none⟩), .pointer (some ⟨kb, 0, none⟩), .int .u64 x.2, .pointer (some ⟨tb, 0, none⟩), .func (.func 113) #[] #[.pointer (some ⟨w.heap.size + 1 + 1, 0, none⟩)], .agg #[.int .u8 x.1.1, .int .u64 x.1.2], .int .u64 x.2, undef, undef, undef, undef, undef, undef, undef, undef, undef, undef, undef, undef, undef, undef], defers := [] } ∧ Blk W kb 64 #[.int .u8 x.1.1, .int .u64 x.1.2]
set_option maxRecDepth 100000 in
set_option maxHeartbeats 8000000 in
theorem all_any {w : World} {tb mb b : Nat} {pr : Int} {F : List Nat} {l : List (HK × Int)} (h : TabAt w tb mb F b pr l) (hr : RiseE l) (hl : l.length ≤ 1000) (most : Nat) (h1 : 1 ≤ most) (h2 : most ≤ 1000) :
    Calls Try.prog 72 #[.pointer (some ⟨tb, 0, none⟩), .int .i64 most] w fun e w' => ∃ b cap, e = .returned (.slice b (l.take most).length cap) ∧ Row w' 149 3 (.slice b (l.take most).length cap) (l.take most).length ((l.take most).flatMap encT) ∧ Below w.heap.size w w' ∧ ∀ k ∈ rb (.slice b (l.take most).length cap), w.heap.size ≤ k := by
  have HP := Hidden.mk (And.intro h hr)
  clear h hr
  refine calls_of_wp_marks Try.func72 rfl ?_
  simp only [Try.ntmps72, List.size_toArray, List.length_cons, List.length_nil, Nat.reduceAdd, Nat.reduceSub, Array.replicate_succ, Array.replicate_zero, List.push_toArray, List.append_toArray, List.nil_append, List.cons_append]
  go_wp2_with fail
  refine (hash_all _ _ ⟨_, rfl⟩).mono ?_; rintro e w4 ⟨rfl, hw4⟩
  have hm4 : Mod [] w w4 := by rw [← hw4]; exact (((Mod.refl [] w).alloc _).alloc _).alloc _
  have hI : AllIn w w4 w.heap.size most [] := by
    refine ⟨?_, ⟨none, 0, ?_, Row.nil_ _ _ _, by simp [rb, Value.ownBlock]⟩, hm4.below (Nat.le_refl _) (by simp)⟩
    · rw [← hw4]; exact ((Blk.new w _ _).alloc _).alloc _
    · rw [← hw4]; exact (Blk.new' (by simp) _ _).alloc _
  have hs4 : w4.heap.size = w.heap.size + 3 := by rw [← hw4]; simp
  have hb4 : w4.cell? ⟨w.heap.size + 2, 0, none⟩ = some (.pointer (some ⟨tb, 0, none⟩)) := by
    rw [← hw4]; exact (Blk.new' (b := w.heap.size + 2) (by simp) 60 #[.pointer (some ⟨tb, 0, none⟩)]).cell 0
  clear hw4
  have hstops := hash_stops 2 (by omega) 149 (by decide) w4 tb mb b (w.heap.size + 2) pr F [w.heap.size + 1] l (HP.out.1.mod hm4 (by simp)) HP.out.2 hb4 (by simp; omega)
  have HS4 := Hidden.mk (And.intro hs4 (And.intro hI hstops))
  clear hm4 hI hs4 hb4 hstops
  go_wp2_with fail
  refine (wpIn_wide (n := 3)).1 ?_
  refine wpIn_rangeFunc_ownH (α := HK × Int) rfl (by omega) (gf := 113) (lb := #[.pointer (some ⟨w.heap.size + 2, 0, none⟩)]) (by simp [Act.eval, World.size_alloc]) trivial (enters_of Try.func113 (by kernel_rfl) rfl) HS4.out.2.2
    (fun h k => KpT.trans h k) (fun W l o o' hl h1 h2 h3 => KpT.put W l o o' h1 h2) (Below.refl _ _) (fun _ => rfl)
    (fun pre W => AllIn w W w.heap.size most pre ∧ pre.length < most)
    (fun c pre W => c = .exit 0 ∧ AllIn w W w.heap.size most pre ∧ pre.length = most)
    (fun s A B row hs hg hr => ⟨hs.1.own hg hr (by have := HS4.out.1; omega), hs.2⟩)
    (fun c s A B row hs hg hr => ⟨hs.1, hs.2.1.own hg hr (by have := HS4.out.1; omega), hs.2.2⟩) ⟨HS4.out.2.1, h1⟩ (AxT w tb most) (fun x a' s A B row hs hg hr => by obtain ⟨kb, e, hb⟩ := hs; exact ⟨kb, e, blk_own hb hg hr⟩) ?assign ?body ?done ?stop
  case assign =>
    rintro l pre ⟨⟨lv, px⟩, vv⟩ W K hI hK
    dsimp only [keyV]
    gi_wp2
    exact hK _ _ ((KeepsOthers.alloc _ _).from _) (KpT.of_mod ((Mod.refl [] W).alloc _) (by simp)) ⟨hI.1.mod0 ((Mod.refl [] W).alloc _), hI.2⟩ ⟨W.heap.size, rfl, Blk.new _ _ _⟩
  case body =>
    rintro y pre ⟨⟨lv, px⟩, vv⟩ a' W hy _ ⟨hI, hlm⟩ ⟨kb, rfl, hkb⟩ hlen
    obtain ⟨b', cap, ho, hR, hge⟩ := hI.ex
    have k0 : W.cell? ⟨kb, 0, none⟩ = some (.int .u8 lv) := hkb.cell 0
    have k1 : W.cell? ⟨kb, 1, none⟩ = some (.int .u64 px) := hkb.cell 1
    have co : W.cell? ⟨w.heap.size + 1, 0, none⟩ = some (.slice b' pre.length cap) := ho.cell 0
    have fo := ho.frozen 0
    have lo := ho.lt
    have cm : W.cell? ⟨w.heap.size, 0, none⟩ = some (.int .i64 most) := hI.hm.cell 0
    have hp1000 : pre.length ≤ 999 := by omega
    obtain ⟨W1, hW1⟩ : ∃ W1, W.alloc (.cells #[.int .u8 lv, .int .u64 px, .int .u64 vv] 149) = W1 := ⟨_, rfl⟩
    have hm1 : Mod [] W W1 := by rw [← hW1]; exact (Mod.refl [] W).alloc _
    have hrow := Hidden.mk (hR.mod hm1 (by simp))
    have hnw : Blk W1 W.heap.size 149 #[.int .u8 lv, .int .u64 px, .int .u64 vv] := by rw [← hW1]; exact Blk.new _ _ _
    have hnews := Hidden.mk hnw.news
    have o1 := Hidden.mk (ho.mod hm1 (by simp))
    have m1 := Hidden.mk (hI.hm.mod hm1 (by simp))
    have HI := Hidden.mk (And.intro hI (And.intro hm1 hge))
    have hW1' := Hidden.mk hW1
    clear hI hm1 hge hR ho hnw hkb hlen
    have hne1 : w.heap.size ≠ w.heap.size + 1 := by omega
    rcases (show pre.length + 1 = most ∨ pre.length + 1 < most by omega) with hlast | hlast
    · have hnm : ((pre.length : Int) + 1 == (most : Int)) = true := by simp; omega
      have HL := Hidden.mk hlast
      clear hlast
      gi_wp2_with (refine wpListIn_app rfl (.tmp 12) (.tmp 19) 99 rfl 149 (.agg #[.int .u8 0, .int .u64 0, .int .u64 0]) 3 24 (by kernel_rfl) entT_info rfl (by decide) _ _ _ rfl hrow.out _ 1 _ [.int .u8 lv, .int .u64 px, .int .u64 vv] rfl rfl hnews.out (by simp [Value.oneCell']) (by omega) (by omega) ?_; intro b5 c5 w5 hr5 hm5 hf5; have o5 := o1.out.mod hm5 (hrow.out.ty o1.out (by decide)); have m5 := m1.out.mod hm5 (hrow.out.ty m1.out (by decide)); have co5 : w5.cell? ⟨w.heap.size + 1, 0, none⟩ = some (.slice b' pre.length cap) := o5.cell 0; have fo5 := o5.frozen 0; have lo5 := o5.lt; have cm5 : w5.cell? ⟨w.heap.size, 0, none⟩ = some (.int .i64 most) := m5.cell 0; have H5 := Hidden.mk (And.intro hr5 (And.intro hm5 (And.intro hf5 (And.intro o5 m5)))); clear hr5 hm5 hf5 o5 m5)
      obtain ⟨a1, a2, a3⟩ := all_next (n0 := w4.heap.size) ((lv, px), vv) HI.out.1 HI.out.2.1 hrow.out HI.out.2.2 H5.out.1 H5.out.2.1 H5.out.2.2.1 H5.out.2.2.2.1 H5.out.2.2.2.2 (Nat.le_refl _)
      exact ⟨a1, rfl, a3, by rw [List.length_append]; exact HL.out⟩
    · have hnm : ((pre.length : Int) + 1 == (most : Int)) = false := by simp; omega
      have HL := Hidden.mk hlast
      clear hlast
      gi_wp2_with (refine wpListIn_app rfl (.tmp 12) (.tmp 19) 99 rfl 149 (.agg #[.int .u8 0, .int .u64 0, .int .u64 0]) 3 24 (by kernel_rfl) entT_info rfl (by decide) _ _ _ rfl hrow.out _ 1 _ [.int .u8 lv, .int .u64 px, .int .u64 vv] rfl rfl hnews.out (by simp [Value.oneCell']) (by omega) (by omega) ?_; intro b5 c5 w5 hr5 hm5 hf5; have o5 := o1.out.mod hm5 (hrow.out.ty o1.out (by decide)); have m5 := m1.out.mod hm5 (hrow.out.ty m1.out (by decide)); have co5 : w5.cell? ⟨w.heap.size + 1, 0, none⟩ = some (.slice b' pre.length cap) := o5.cell 0; have fo5 := o5.frozen 0; have lo5 := o5.lt; have cm5 : w5.cell? ⟨w.heap.size, 0, none⟩ = some (.int .i64 most) := m5.cell 0; have H5 := Hidden.mk (And.intro hr5 (And.intro hm5 (And.intro hf5 (And.intro o5 m5)))); clear hr5 hm5 hf5 o5 m5)
      obtain ⟨a1, a2, a3⟩ := all_next (n0 := w4.heap.size) ((lv, px), vv) HI.out.1 HI.out.2.1 hrow.out HI.out.2.2 H5.out.1 H5.out.2.1 H5.out.2.2.1 H5.out.2.2.2.1 H5.out.2.2.2.2 (Nat.le_refl _)
      exact ⟨a1, a2, a3, by rw [List.length_append]; exact HL.out⟩
  case done =>
    rintro D xs W hD rfl ⟨hI, hlm⟩ hK
    have HT : Hidden (xs.take most = xs) := ⟨List.take_of_length_le (by omega)⟩
    obtain ⟨b', cap, ho, hR, hge⟩ := hI.ex
    have co : W.cell? ⟨w.heap.size + 1, 0, none⟩ = some (.slice b' xs.length cap) := ho.cell 0
    have hDw : w.heap.size ≤ D := by have := HS4.out.1; omega
    have HF := Hidden.mk (And.intro hI (And.intro hR (And.intro hge hK)))
    clear hI hlm hK ho hR hge
    go_wp2_with fail
    (try simp only [Exit.inBlock, Exit.then])
    refine bodyPostM_ret (D := D) rfl HF.out.2.2.2 (results_tmp rfl _ _ _) ?_
    rw [HT.out]
    have hK1 := HF.out.2.2.2
    exact ⟨b', cap, rfl, HF.out.2.1.kp (KpC.put (C := []) W D _ _ hK1 rfl) (by simp), HF.out.1.below.trans (belowK_b (w := w) (Nat.le_refl _) _ D _ _ hDw hK1 rfl rfl), HF.out.2.2.1⟩
  case stop =>
    rintro D c pre W hD hp ⟨rfl, hI, hlm⟩ hK
    have HT : Hidden (l.take most = pre) := ⟨by obtain ⟨t, rfl⟩ := hp; rw [← hlm]; simp⟩
    obtain ⟨b', cap, ho, hR, hge⟩ := hI.ex
    have co : W.cell? ⟨w.heap.size + 1, 0, none⟩ = some (.slice b' pre.length cap) := ho.cell 0
    have hDw : w.heap.size ≤ D := by have := HS4.out.1; omega
    have HF := Hidden.mk (And.intro hI (And.intro hR (And.intro hge hK)))
    clear hI hlm hK ho hR hge hp
    gi_wp2
    go_wp2_with fail
    (try simp only [Exit.inBlock, Exit.then])
    refine bodyPostM_ret (D := D) rfl HF.out.2.2.2 (results_tmp rfl _ _ _) ?_
    rw [HT.out]
    have hK1 := HF.out.2.2.2
    exact ⟨b', cap, rfl, HF.out.2.1.kp (KpC.put (C := []) W D _ _ hK1 rfl) (by simp), HF.out.1.below.trans (belowK_b (w := w) (Nat.le_refl _) _ D _ _ hDw hK1 rfl rfl), HF.out.2.2.1⟩
end Go.Proofs.Ytnbanbfnabhjjaa
