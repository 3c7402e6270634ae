/- slices.Clone, IndexFunc and DeleteFunc at entries. -/
import Derived.Test.YtnbanbfnabhjjaaHashSort
import Derived.Test.YtnbanbfnabhjjaaHash3
import Derived.Test.YtnbanbfnabhjjaaClear
namespace Go.Proofs.Ytnbanbfnabhjjaa
open Go.RowKit Go.Shelf Go.Sort
set_option linter.unusedVariables false
set_option linter.unusedSimpArgs false
theorem blk_news0 {w : World} {b t n sz : Nat} {cs : Array Value} (h : Blk w b t cs) (hl : cs.size = n * sz) (c : Nat) : Go.Proofs.Ytnbanbfnabhjjaa.Holds w (.slice (some ⟨b, 0, none⟩) n c) n sz cs.toList :=
  .inr ⟨_, _, rfl, by simpa using hl, h.news⟩
set_option maxHeartbeats 1000000 in
theorem clone_entries {w : World} {pb : Nat} {L : HT} (hb : Blk w pb 123 (L.flatMap encE).toArray) (hN : L.length ≤ 1099511627776) (hN0 : 0 < L.length) :
    Calls Try.prog 115 #[.slice (some ⟨pb, 0, none⟩) L.length L.length] w fun e w' =>
      ∃ b cap, e = .returned (.slice (some ⟨b, 0, none⟩) L.length cap) ∧ Row w' 123 4 (.slice (some ⟨b, 0, none⟩) L.length cap) L.length (L.flatMap encE) ∧ Mod [] w w' ∧ w.heap.size ≤ b := by
  have h1 : ∀ u ∈ L.flatMap encE, u.oneCell' = true := by
    intro u hu
    obtain ⟨o, _, hu⟩ := List.mem_flatMap.1 hu
    cases o <;> simp [encE] at hu <;> rcases hu with rfl | rfl | rfl | rfl <;> rfl
  have hlen := flat_len encE 4 encE_len L
  have hnil : ∀ (n c : Nat) (W : World), (binOp .eql 110 (.slice (some ⟨pb, 0, none⟩) n c) (.slice none 0 0)).run Try.prog W = .ok (.bool false) W := fun n c W => Lib.run_eql_slice_nil W _ 123 _ n c 0 0 Try.underlying110
  have HB := Hidden.mk (And.intro hb (And.intro h1 hlen))
  clear hb h1 hlen
  generalize hn : L.length = n at *
  have HN := Hidden.mk hn
  clear hn
  have hrow : Hidden (Row (w.alloc (.cells #[] 123)) 123 4 (.slice (some ⟨w.heap.size, 0, none⟩) 0 0) 0 []) := ⟨Row.empty_ (Blk.new w _ _)⟩
  have hnews : Hidden (Go.Proofs.Ytnbanbfnabhjjaa.Holds (w.alloc (.cells #[] 123)) (.slice (some ⟨pb, 0, none⟩) n n) n 4 (L.flatMap encE)) := ⟨by have := blk_news0 (HB.out.1.alloc (.cells #[] 123)) (n := n) (sz := 4) (by simp only [List.size_toArray, HB.out.2.2]) n; simpa using this⟩
  go_enter Try.func115, Try.ntmps115
  go_wp2_with (refine wpList_any rfl (.tmp 5) (.tmp 6) 110 rfl 123 (.agg #[.int .u8 0, .int .u64 0, .int .u64 0, .bool false]) 4 32 (by kernel_rfl) entry_info rfl (by decide) _ _ _ rfl hrow.out _ _ _ rfl hnews.out HB.out.2.1 (by omega) (by omega) ?_; intro b4 c4 w4 hr4 hm4 hf4; have H4 := Hidden.mk (And.intro hr4 (And.intro hm4 hf4)); clear hr4 hm4 hf4)
  go_ret
  obtain ⟨hr4, hm4, hf4⟩ := H4.out
  simp only [Nat.zero_add, List.nil_append] at hr4 hf4 ⊢
  obtain ⟨g, cap, hv, hrb, _⟩ := hr4.at_ hN0
  injection hv with e1 e2 e3
  subst e1
  have hm0 : Mod [] w w4 := ((Mod.refl [] w).alloc (.cells #[] 123)).trans hm4 (fun x hx => .inr (by have : x ∈ rb (.slice (some ⟨w.heap.size, 0, none⟩) 0 0) := hx; simp [rb, Value.ownBlock] at this; omega))
  refine ⟨g, c4, rfl, hr4, hm0, ?_⟩
  rcases hf4 g (by simp [rb, Value.ownBlock]) with hk | hk
  · have : g ∈ rb (.slice (some ⟨w.heap.size, 0, none⟩) 0 0) := hk
    simp [rb, Value.ownBlock] at this; omega
  · simp at hk; omega
theorem some_snoc {L : HT} {i : Nat} {e : HK × Int} (h : L[i]? = some (some e)) (hall : ∀ o ∈ L.take i, o.isSome = true) : ∀ o ∈ L.take (i + 1), o.isSome = true := by
  intro o ho
  rw [List.take_add_one, h] at ho
  simp at ho
  rcases ho with ho | rfl
  · exact hall o ho
  · rfl
/-- A row of places: one of them. -/
theorem erow_cell {w : World} {g N cap : Nat} {X : HT} (h : Row w 123 4 (.slice (some ⟨g, 0, none⟩) N cap) N (X.flatMap encE)) (hX : X.length = N) {i : Nat} (hi : i < N) (j : Nat) (hj : j < 4) : w.cell? ⟨g, i * 4 + j, none⟩ = (encE X[i])[j]? := by
  obtain ⟨g', cap', hv, _, _, _, _, h6, _⟩ := h.at_ (by omega)
  injection hv with e1; injection e1 with e1; injection e1 with e1; subst e1
  rw [h6 _ (by omega), flat_get encE 4 encE_len X i j hj, List.getElem?_eq_getElem (by omega)]; rfl
set_option maxRecDepth 100000 in
set_option maxHeartbeats 1000000 in
theorem index_entries {w : World} {g N cap : Nat} {L : HT} (h : Row w 123 4 (.slice (some ⟨g, 0, none⟩) N cap) N (L.flatMap encE)) (hL : L.length = N) (hN : N ≤ 1099511627776) :
    Calls Try.prog 126 #[.slice (some ⟨g, 0, none⟩) N cap, .func (.func 116) #[] #[]] w fun e w' =>
      Mod [] w w' ∧ ((e = .returned (.int .i64 (-1)) ∧ ∀ o ∈ L, o.isSome = true) ∨ ∃ i, e = .returned (.int .i64 (i : Nat)) ∧ L[i]? = some none ∧ ∀ o ∈ L.take i, o.isSome = true) := by
  have hfz : ∀ W, Mod [] w W → ∀ i (hi : i < N), ∀ j, j < 4 → W.cell? ⟨g, i * 4 + j, none⟩ = (encE (L[i]'(by omega)))[j]? := fun W hW i hi j hj => erow_cell (h.mod hW (by simp)) hL hi j hj
  have HF := Hidden.mk hfz
  have hcap : N ≤ cap := by obtain ⟨a, c, hv, h1, h2⟩ := h.slice_; injection hv with _ _ e; omega
  clear h hfz
  go_enter Try.func126, Try.ntmps126
  go_wp2_with fail
  go_loopw [8] (fun iv wr => ∃ i : Nat, i ≤ N ∧ iv = .int .i64 i ∧ Mod [] w wr ∧ ∀ o ∈ L.take i, o.isSome = true) (fun iv _ => N - (intOf iv).toNat)
  case atStart => exact ⟨0, by omega, rfl, Mod.refl _ _, by simp⟩
  case round =>
    obtain ⟨i, hi, rfl, hM, hall⟩ := hrel
    by_cases hlt : i < N
    · have c0 := HF.out wr hM i hlt 0 (by omega)
      have c1 := HF.out wr hM i hlt 1 (by omega)
      have c2 := HF.out wr hM i hlt 2 (by omega)
      have c3 := HF.out wr hM i hlt 3 (by omega)
      have hLi : L[i]? = some (L[i]'(by omega)) := List.getElem?_eq_getElem (by omega)
      generalize (L[i]'(by omega)) = o at *
      have hdel := del_entry o wr
      have HM := Hidden.mk (And.intro hM (And.intro hall hLi))
      clear hM hall hLi
      cases o with
      | none =>
        simp only [encE, List.getElem?_cons_zero, List.getElem?_cons_succ, Nat.add_zero] at c0 c1 c2 c3 hdel
        go_wp2_with fail
        refine hdel.mono ?_; clear hdel; rintro e w1 ⟨rfl, hw1⟩
        have hM1 : Mod [] w w1 := by rw [← hw1]; exact HM.out.1.alloc _
        have HM1 := Hidden.mk hM1
        clear hM1 hw1
        go_wp2_with fail
        go_ret
        exact ⟨HM1.out, .inr ⟨i, rfl, HM.out.2.2, HM.out.2.1⟩⟩
      | some e =>
        simp only [encE, List.getElem?_cons_zero, List.getElem?_cons_succ, Nat.add_zero] at c0 c1 c2 c3 hdel
        go_wp2_with fail
        refine hdel.mono ?_; clear hdel; rintro e' w1 ⟨rfl, hw1⟩
        have hM1 : Mod [] w w1 := by rw [← hw1]; exact HM.out.1.alloc _
        have HM1 := Hidden.mk hM1
        clear hM1 hw1
        go_wp2_with fail
        go_roundw
        case rel => exact ⟨i + 1, by omega, by go_num, HM1.out, some_snoc HM.out.2.2 HM.out.2.1⟩
        case measure => simp [intOf]; omega
    · obtain rfl : i = N := by omega
      have HM := Hidden.mk (And.intro hM hall)
      clear hM hall hlt
      go_wp2_with fail
      go_ret
      refine ⟨HM.out.1, .inl ⟨rfl, fun o ho => HM.out.2 o (by rw [List.take_of_length_le (by omega)]; exact ho)⟩⟩
theorem ents_all {L : HT} (h : ∀ o ∈ L, o.isSome = true) : L = (ents L).map some := by
  induction L with
  | nil => rfl
  | cons o L ih =>
    cases o with
    | none => simpa using h none (by simp)
    | some e => simp only [ents, List.filterMap_cons, id, List.map_cons]; congr 1; exact ih (fun o ho => h o (by simp [ho]))
theorem ents_take {L : HT} {j : Nat} {o : Option (HK × Int)} (h : L[j]? = some o) : ents (L.take (j + 1)) = ents (L.take j) ++ o.toList := by
  unfold ents; rw [List.take_add_one, h, List.filterMap_append]; cases o <;> simp
theorem encF_map (l : List (HK × Int)) : (l.map some).flatMap encE = l.flatMap encF := by
  induction l with
  | nil => rfl
  | cons e l ih => simp only [List.map_cons, List.flatMap_cons, ih]; rfl
theorem entry_zero (w : World) : (zeroValue 123).run Try.prog w = .ok (.agg #[.int .u8 0, .int .u64 0, .int .u64 0, .bool false]) w := by kernel_rfl
/-- clear of a row's end. -/
theorem clear_end {P : Program} {w : World} (t e ty : TypeId) (z : Value) (size : Nat) (ht : P.underlying t = some (.slice e)) (hz : ∀ w, (zeroValue e).run P w = .ok z w) (hzs : z.cells.size = size) (h1 : ∀ u ∈ z.cells, u.oneCell' = true)
    (g i n cap c : Nat) (xs : List Value) (hown : Row w e size (.slice (some ⟨g, 0, none⟩) n cap) n xs) (hi : i ≤ n) :
    ∃ w', (Builtin.clear_ #[t] ty #[.slice (some ⟨g, i * size, none⟩) (n - i) c]).run P w = .ok (.tuple #[]) w' ∧ Mod [g] w w' ∧ Row w' e size (.slice (some ⟨g, 0, none⟩) i cap) i (xs.take (i * size)) := by
  have hcut := hown.cut hi
  obtain ⟨hx, h2⟩ := hown
  rcases h2 with ⟨hv, _⟩ | ⟨g', cap', cur, hv, _, hgg, hnc, hcm, hcs, htake⟩
  · cases hv
  injection hv with hv hv2 hv3; injection hv with hv; injection hv with hv; subst hv hv3
  rcases Nat.eq_zero_or_pos (n - i) with h0 | h0
  · rw [h0]
    exact ⟨w, by simp [Builtin.clear_, run_underlying ht], Mod.refl _ w, hcut⟩
  · have hlen : (Builtin.zeroCells z.cells (n - i)).toList.length = (n - i) * size := by rw [Array.length_toList, size_zeroCells, hzs]
    have hone : ∀ u ∈ (Builtin.zeroCells z.cells (n - i)).toList, u.oneCell' = true := by
      intro u hu
      simp only [Builtin.zeroCells, Array.mem_toList_iff, Array.mem_map, Array.mem_range] at hu
      obtain ⟨j, _, rfl⟩ := hu
      have hp : 0 < z.cells.size := by
        rcases Nat.eq_zero_or_pos z.cells.size with h0 | h0
        · rename_i hj; simp [h0] at hj
        · exact h0
      have hj : j % z.cells.size < z.cells.size := Nat.mod_lt _ hp
      have hq : z.cells[j % z.cells.size]! = z.cells[j % z.cells.size] := getElem!_pos z.cells (j % z.cells.size) hj
      rw [hq]
      exact h1 _ (Array.getElem_mem _)
    have hsum : i * size + (n - i) * size = n * size := by rw [← Nat.add_mul]; congr 1; omega
    have hle : n * size ≤ cap * size := Nat.mul_le_mul_right _ hnc
    have hst := run_storeCells_at (P := P) g (i * size) e (Builtin.zeroCells z.cells (n - i)).toList 0 cur w hgg (by rw [hlen]; omega) hone
    obtain ⟨m, hm⟩ : ∃ m, n - i = m + 1 := ⟨n - i - 1, by omega⟩
    refine ⟨w.setRow g (List.take (i * size + 0) cur.toList ++ (Builtin.zeroCells z.cells (n - i)).toList ++ List.drop (i * size + 0 + (Builtin.zeroCells z.cells (n - i)).toList.length) cur.toList).toArray, ?_, Mod.setRow_ w g _, ?_⟩
    · rw [hm] at hst ⊢
      simp [Builtin.clear_, run_underlying ht, hz, hst]
    · refine ⟨by rw [List.length_take, hx]; have := Nat.mul_le_mul_right size hi; omega, .inr ⟨g, cap, _, rfl, Nat.zero_le _, setRow_heap w g _ _ _ _ hgg, by omega, hcm, ?_, ?_⟩⟩
      · simp only [List.size_toArray, List.length_append, List.length_take, List.length_drop, hlen, Array.length_toList]; omega
      · simp only [List.take_append, Nat.add_zero, List.length_take, Array.length_toList]
        have e1 : min (i * size) cur.size = i * size := by omega
        rw [e1, Nat.sub_self, List.take_take, Nat.min_self, ← htake, List.take_take]
        have e2 : min (i * size) (n * size) = i * size := by omega
        rw [e2]
        simp
        left
        omega
theorem wpList_clearEnd {P : Program} {w : World} {ops : Array Oper} {rest : List Oper} {o : Oper} {a : Act} {Q : Exit → Act → World → Prop} (hgd : o.guard = none) (s : Operand) (t : TypeId)
    (ho : o.op = .call { callee := .builtin .clear, args := #[s], argTypes := #[t] })
    (e : TypeId) (z : Value) (size : Nat) (ht : P.underlying t = some (.slice e)) (hz : ∀ w, (zeroValue e).run P w = .ok z w) (hzs : z.cells.size = size) (h1 : ∀ u ∈ z.cells, u.oneCell' = true)
    (g i n cap c : Nat) (xs : List Value) (hs : a.eval s = .slice (some ⟨g, i * size, none⟩) (n - i) c) (hown : Row w e size (.slice (some ⟨g, 0, none⟩) n cap) n xs) (hi : i ≤ n)
    (h : ∀ w', Mod [g] w w' → Row w' e size (.slice (some ⟨g, 0, none⟩) i cap) i (xs.take (i * size)) → wpList P ops Q rest (a.put o.dst (.tuple #[])) w') : wpList P ops Q (o :: rest) a w := by
  obtain ⟨w', hr, h2, h3⟩ := clear_end (P := P) (w := w) t e o.type z size ht hz hzs h1 g i n cap c xs hown hi
  refine wpList_plain hgd (fun K hK => ?_)
  unfold Oper.wp execOp
  simp only [ho, resolve, invoke, builtin, Sem.run_bind, Sem.run_pure, Result.andThen_ok, List.map_toArray, List.map_cons, List.map_nil, hs, hr]
  exact hK _ _ (h w' h2 h3)
theorem erow_set {w : World} {g N cap : Nat} {X : HT} (h : Row w 123 4 (.slice (some ⟨g, 0, none⟩) N cap) N (X.flatMap encE)) (hX : X.length = N) {u : Nat} (hu : u < N) (e : HK × Int) :
    Row ((((w.setCell ⟨g, u * 4, none⟩ (.int .u8 e.1.1)).setCell ⟨g, u * 4 + 1, none⟩ (.int .u64 e.1.2)).setCell ⟨g, u * 4 + 2, none⟩ (.int .u64 e.2)).setCell ⟨g, u * 4 + 3, none⟩ (.bool true)) 123 4 (.slice (some ⟨g, 0, none⟩) N cap) N ((X.set u (some e)).flatMap encE) := by
  have h2 := (((h.stored (u * 4) (.int .u8 e.1.1)).stored (u * 4 + 1) (.int .u64 e.1.2)).stored (u * 4 + 2) (.int .u64 e.2)).stored (u * 4 + 3) (.bool true)
  have hl := flat_len encE 4 encE_len X
  have hb : (u + 1) * 4 ≤ N * 4 := Nat.mul_le_mul_right _ hu
  rw [set4_eq _ _ _ _ _ _ (by rw [hl, hX]; omega)] at h2
  rw [flat_put encE 4 encE_len _ _ (by omega)]
  exact h2
theorem erow_free {w : World} {g N cap sz E : Nat} {xs : List Value} (h : Row w E sz (.slice (some ⟨g, 0, none⟩) N cap) N xs) (hN : 0 < N) (i : Nat) : w.frozen? ⟨g, i, none⟩ = false := by
  obtain ⟨g', _, hv, _, _, _, _, _, hfz⟩ := h.at_ hN
  injection hv with e1 e2 e3; injection e1 with e1; injection e1 with e1; subst e1
  exact hfz i
/-- What the loop of DeleteFunc holds: i written, j looked at. -/
structure DelIn (w wr : World) (g N cap : Nat) (L X : HT) (i j : Nat) : Prop where
  row : Row wr 123 4 (.slice (some ⟨g, 0, none⟩) N cap) N (X.flatMap encE)
  len : X.length = N
  mod : Mod [g] w wr
  ij : i < j
  jN : j ≤ N
  head : X.take i = (ents (L.take j)).map some
  tail : ∀ k, j ≤ k → X[k]? = L[k]?
set_option maxRecDepth 100000 in
set_option maxHeartbeats 2000000 in
theorem delete_entries {w : World} {g N cap : Nat} {L : HT} (h : Row w 123 4 (.slice (some ⟨g, 0, none⟩) N cap) N (L.flatMap encE)) (hL : L.length = N) (hN : N ≤ 1099511627776) :
    Calls Try.prog 114 #[.slice (some ⟨g, 0, none⟩) N cap, .func (.func 116) #[] #[]] w fun e w' =>
      Mod [g] w w' ∧ ∃ n, n = (ents L).length ∧ e = .returned (.slice (some ⟨g, 0, none⟩) n cap) ∧ Row w' 123 4 (.slice (some ⟨g, 0, none⟩) n cap) n ((ents L).flatMap encF) := by
  have hidx := index_entries h hL hN
  have hcap : N ≤ cap ∧ cap ≤ 9223372036854775807 := by obtain ⟨a, c, hv, h1, h2⟩ := h.slice_; injection hv with _ _ e; omega
  obtain ⟨hcap, hcap2⟩ := hcap
  have hglt : g < w.heap.size := h.lt (by simp [rb, Value.ownBlock])
  have HR := Hidden.mk h
  clear h
  go_enter Try.func114, Try.ntmps114
  go_wp2_with fail
  refine hidx.mono ?_; clear hidx
  rintro e w1 ⟨hm1, ⟨rfl, hall⟩ | ⟨i0, rfl, hi0, hall⟩⟩
  · have HA := Hidden.mk (And.intro hm1 hall)
    clear hm1 hall
    go_wp2_with fail
    go_ret
    have e1 := ents_all HA.out.2
    have e2 : (ents L).length = N := by have := congrArg List.length e1; simp at this; omega
    refine ⟨HA.out.1.mono (by simp), N, e2.symm, rfl, ?_⟩
    rw [← encF_map, ← e1]
    exact HR.out.mod HA.out.1 (by simp)
  · have hi0N : i0 < N := by have := (List.getElem?_eq_some_iff.1 hi0).1; omega
    have hne : ((i0 : Int) == -1) = false := by first | (simp; done) | (simp; omega)
    have hD : DelIn w w1 g N cap L L i0 (i0 + 1) := ⟨HR.out.mod hm1 (by simp), hL, hm1.mono (by simp), by omega, by omega, by
      rw [ents_take hi0, Option.toList_none, List.append_nil]; exact ents_all hall, fun _ _ => rfl⟩
    have HD := Hidden.mk hD
    clear hm1 hall hD hi0
    go_wp2_with fail
    go_loopw [5, 6] (fun iv jv wr => ∃ (i j : Nat) (X : HT), iv = .int .i64 i ∧ jv = .int .i64 j ∧ DelIn w wr g N cap L X i j) (fun _ jv _ => N - (intOf jv).toNat)
    case atStart => exact ⟨i0, i0 + 1, L, rfl, by go_num, HD.out⟩
    case round =>
      clear HD hne hi0N
      obtain ⟨i, j, X, rfl, rfl, hD⟩ := hrel
      have hij := hD.ij
      have hjN := hD.jN
      have hgr : g < wr.heap.size := by have := hD.mod.size; omega
      by_cases hlt : j < N
      · have hXj : X[j]? = some (X[j]'(by have := hD.len; omega)) := List.getElem?_eq_getElem (by have := hD.len; omega)
        have c0 := erow_cell hD.row hD.len hlt 0 (by omega)
        have c1 := erow_cell hD.row hD.len hlt 1 (by omega)
        have c2 := erow_cell hD.row hD.len hlt 2 (by omega)
        have c3 := erow_cell hD.row hD.len hlt 3 (by omega)
        generalize (X[j]'(by have := hD.len; omega)) = o at *
        have hdel := fun W => del_entry o W
        have hLj : L[j]? = some o := by rw [← hD.tail j (Nat.le_refl _)]; exact hXj
        cases o with
        | none =>
          simp only [encE, List.getElem?_cons_zero, List.getElem?_cons_succ, Nat.add_zero] at c0 c1 c2 c3 hdel
          have HX := Hidden.mk (And.intro hD hLj)
          clear hD hXj hLj
          go_wp2_with fail
          refine (hdel _).mono ?_; clear hdel; rintro e w2 ⟨rfl, hw2⟩
          have hD2 : DelIn w w2 g N cap L X i (j + 1) := by
            obtain ⟨⟨q1, q2, q3, q4, q5, q6, q7⟩, hLj⟩ := HX.out
            have hm : Mod [] wr w2 := by rw [← hw2]; exact ((Mod.refl [] wr).alloc _).alloc _
            exact ⟨q1.mod hm (by simp), q2, q3.trans hm (by simp), by omega, by omega, by rw [ents_take hLj, Option.toList_none, List.append_nil]; exact q6, fun k hk => q7 k (by omega)⟩
          have HD2 := Hidden.mk hD2
          clear hD2 hw2
          go_wp2_with fail
          go_roundw
          case rel => exact ⟨i, j + 1, X, rfl, by go_num, HD2.out⟩
          case measure => simp [intOf]; omega
        | some e0 =>
          simp only [encE, List.getElem?_cons_zero, List.getElem?_cons_succ, Nat.add_zero] at c0 c1 c2 c3 hdel
          obtain ⟨⟨lv, px⟩, vv⟩ := e0
          simp only at c0 c1 c2 c3 hdel
          have HX := Hidden.mk (And.intro hD hLj)
          clear hD hXj hLj
          go_wp2_with fail
          refine (hdel _).mono ?_; clear hdel; rintro e w2 ⟨rfl, hw2⟩
          have hm : Mod [] wr w2 := by rw [← hw2]; exact ((Mod.refl [] wr).alloc _).alloc _
          have hq := (Blk.new wr 123 #[.int .u8 lv, .int .u64 px, .int .u64 vv, .bool true]).mod (w' := w2) (by rw [← hw2]; exact (Mod.refl [] _).alloc _) (by simp)
          have d0 : w2.cell? ⟨wr.heap.size, 0, none⟩ = some (.int .u8 lv) := hq.cell 0
          have d1 : w2.cell? ⟨wr.heap.size, 1, none⟩ = some (.int .u64 px) := hq.cell 1
          have d2 : w2.cell? ⟨wr.heap.size, 2, none⟩ = some (.int .u64 vv) := hq.cell 2
          have d3 : w2.cell? ⟨wr.heap.size, 3, none⟩ = some (.bool true) := hq.cell 3
          have hR2 := HX.out.1.row.mod hm (by simp)
          have hi2 : i < N := by omega
          have g0 := erow_cell hR2 HX.out.1.len hi2 0 (by omega)
          have g1 := erow_cell hR2 HX.out.1.len hi2 1 (by omega)
          have g2 := erow_cell hR2 HX.out.1.len hi2 2 (by omega)
          have g3 := erow_cell hR2 HX.out.1.len hi2 3 (by omega)
          have hfz := erow_free hR2 (by omega)
          have f0 := hfz (i * 4)
          have f1 := hfz (i * 4 + 1)
          have f2 := hfz (i * 4 + 2)
          have f3 := hfz (i * 4 + 3)
          obtain ⟨u0, u1, u2, u3, hu⟩ : ∃ a b c d, encE (X[i]'(by have := HX.out.1.len; omega)) = [a, b, c, d] := by
            cases (X[i]'(by have := HX.out.1.len; omega)) <;> exact ⟨_, _, _, _, rfl⟩
          rw [hu] at g0 g1 g2 g3
          simp only [List.getElem?_cons_zero, List.getElem?_cons_succ, Nat.add_zero] at g0 g1 g2 g3
          clear hu
          have hl2 : g < w2.heap.size := hR2.lt (by simp [rb, Value.ownBlock])
          have hD2 : DelIn w ((((w2.setCell ⟨g, i * 4, none⟩ (.int .u8 lv)).setCell ⟨g, i * 4 + 1, none⟩ (.int .u64 px)).setCell ⟨g, i * 4 + 2, none⟩ (.int .u64 vv)).setCell ⟨g, i * 4 + 3, none⟩ (.bool true)) g N cap L (X.set i (some ((lv, px), vv))) (i + 1) (j + 1) := by
            obtain ⟨⟨q1, q2, q3, q4, q5, q6, q7⟩, hLj⟩ := HX.out
            refine ⟨erow_set hR2 q2 hi2 ((lv, px), vv), by simpa using q2, ((((q3.trans hm (by simp)).set (.inl (by simp)) _).set (.inl (by simp)) _).set (.inl (by simp)) _).set (.inl (by simp)) _, by omega, by omega, ?_, fun k hk => by rw [List.getElem?_set_ne (by omega)]; exact q7 k (by omega)⟩
            rw [ents_take hLj, List.map_append, ← q6, List.take_add_one, List.take_set_of_le (by omega)]
            simp [List.getElem?_set_self, show i < X.length by omega]
          have HD2 := Hidden.mk hD2
          clear hD2 hw2 hm hq hR2 hfz
          go_wp2_with fail
          go_roundw
          case rel => exact ⟨i + 1, j + 1, _, by go_num, by go_num, HD2.out⟩
          case measure => simp [intOf]; omega
      · obtain rfl : j = N := by omega
        have HX := Hidden.mk hD
        have hrow := Hidden.mk hD.row
        clear hD hlt
        have hi4 : i * 4 ≤ 4398046511104 := by omega
        go_wp2_with (refine wpList_clearEnd rfl (.tmp 38) 110 rfl 123 (.agg #[.int .u8 0, .int .u64 0, .int .u64 0, .bool false]) 4 (by kernel_rfl) entry_zero rfl (by simp [Value.cells, Value.oneCell']) g i j cap _ _ rfl hrow.out (by omega) ?_; intro w5 hm5 hr5; have H5 := Hidden.mk (And.intro hm5 hr5); clear hm5 hr5)
        go_ret
        obtain ⟨hm5, hr5⟩ := H5.out
        have hh := HX.out.head
        have hin : i = (ents L).length := by
          have h1 := congrArg List.length hh
          rw [List.length_take, List.length_map, HX.out.len, List.take_of_length_le (by omega)] at h1
          omega
        refine ⟨HX.out.mod.trans hm5 (by simp), i, hin, rfl, ?_⟩
        rw [flat_take encE 4 encE_len, hh, List.take_of_length_le (by omega), encF_map] at hr5
        exact hr5
end Go.Proofs.Ytnbanbfnabhjjaa
