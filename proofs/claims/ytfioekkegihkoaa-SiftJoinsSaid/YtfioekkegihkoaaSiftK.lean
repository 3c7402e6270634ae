/- sift.Or: rows of sequences; what one of them tells. -/
import Derived.Test.YtfioekkegihkoaaSiftI
import Derived.Test.YtfioekkegihkoaaSiftJ
namespace Go.Proofs.Ytfioekkegihkoaa
open Go.RowKit Go.Shelf
attribute [local go_sem] Oper.semAt_some
set_option linter.unusedVariables false
set_option linter.unusedSimpArgs false
/-- The slice v of sequences tells the lists ls; R: the blocks that it reads. -/
def LSeq (w : World) (v : Value) (ls : List (List Int)) (R : List Nat) : Prop :=
  ∃ a cap, v = .slice a ls.length cap ∧ ls.length ≤ cap ∧ cap ≤ 9223372036854775807 ∧ (a = none → cap = 0) ∧ (ls = [] ∨ ∃ b off, a = some ⟨b, off, none⟩ ∧ b < w.heap.size ∧ b ∈ R ∧
    ∀ i l, ls[i]? = some l → ∃ u Ri, w.cell? ⟨b, off + i, none⟩ = some u ∧ SeqL w u l Ri ∧ ∀ q ∈ Ri, q ∈ R)
theorem LSeq.mod {w w' : World} {v : Value} {ls : List (List Int)} {R T : List Nat} (h : LSeq w v ls R) (hm : Mod T w w') (hT : ∀ q ∈ T, q ∉ R) : LSeq w' v ls R := by
  obtain ⟨a, cap, rfl, h1, h2, h3, h4⟩ := h
  refine ⟨a, cap, rfl, h1, h2, h3, h4.imp id ?_⟩
  rintro ⟨b, off, rfl, hb, hbR, hc⟩
  refine ⟨b, off, rfl, Nat.lt_of_lt_of_le hb hm.size, hbR, fun i l hl => ?_⟩
  obtain ⟨u, Ri, hu, hs, hR⟩ := hc i l hl
  exact ⟨u, Ri, (World.cell?_of_block (hm.block b hb (fun hk => hT _ hk hbR))).trans hu, hs.mod hm (fun q hq hk => hT q hq (hR q hk)), hR⟩
theorem LSeq.news {w w' : World} {v : Value} {ls : List (List Int)} {R : List Nat} (h : LSeq w v ls R) (hm : Mod [] w w') : LSeq w' v ls R := h.mod hm (by simp)
theorem LSeq.get {w : World} {a : Option Addr} {n cap : Nat} {ls : List (List Int)} {R : List Nat} (h : LSeq w (.slice a n cap) ls R) {i : Nat} (hi : i < ls.length) :
    ∃ b off u l Ri, a = some ⟨b, off, none⟩ ∧ ls[i]? = some l ∧ w.cell? ⟨b, off + i, none⟩ = some u ∧ SeqL w u l Ri := by
  obtain ⟨a', cap', he, h1, h2, h3, h4⟩ := h
  injection he with e1 e2 e3
  subst e1
  rcases h4 with rfl | ⟨b, off, rfl, hb, hbR, hc⟩
  · simp at hi
  · obtain ⟨u, Ri, hu, hs, hR⟩ := hc i _ (List.getElem?_eq_getElem hi)
    exact ⟨b, off, u, _, Ri, rfl, List.getElem?_eq_getElem hi, hu, hs⟩
/-- What one of them has, as the program joins them. -/
def orF (ls : List (List Int)) : List Int := ls.foldl twoL []
theorem orF_snoc (ls : List (List Int)) (l : List Int) : orF (ls ++ [l]) = twoL (orF ls) l := by unfold orF; rw [List.foldl_append]; rfl
theorem orF_len {ls : List (List Int)} {m : Nat} (h : ∀ l ∈ ls, l.length ≤ m) : (orF ls).length ≤ ls.length * m := by
  unfold orF
  suffices H : ∀ (ls : List (List Int)) (acc : List Int), (∀ l ∈ ls, l.length ≤ m) → (ls.foldl twoL acc).length ≤ acc.length + ls.length * m by simpa using H ls [] h
  intro ls
  induction ls with
  | nil => intro acc _; simp
  | cons x ls ih =>
    intro acc hl
    have h1 := ih (twoL acc x) (fun l hl' => hl l (by simp [hl']))
    have h2 := twoL_len _ acc x (Nat.le_refl _)
    have h3 := hl x (by simp)
    simp only [List.foldl_cons, List.length_cons, Nat.add_mul, Nat.one_mul]
    omega
theorem orF_asc {ls : List (List Int)} (h : ∀ l ∈ ls, l.Pairwise (· < ·)) : orF ls = asc ls.flatten := by
  suffices H : ∀ (ls : List (List Int)) (acc : List Int), acc.Pairwise (· < ·) → (∀ l ∈ ls, l.Pairwise (· < ·)) → (ls.foldl twoL acc) = asc (acc ++ ls.flatten) by
    have := H ls [] List.Pairwise.nil h; simpa [orF] using this
  intro ls
  induction ls with
  | nil =>
    intro acc ha _
    refine rise_ext ha (asc_rises _) (fun z => by rw [asc_mem]; simp)
  | cons x ls ih =>
    intro acc ha hl
    rw [List.foldl_cons, ih _ (twoL_rises _ acc x (Nat.le_refl _) ha (hl x (by simp))) (fun l hl' => hl l (by simp [hl']))]
    refine rise_ext (asc_rises _) (asc_rises _) (fun z => ?_)
    rw [asc_mem, asc_mem, List.mem_append, twoL_mem _ acc x (Nat.le_refl _)]
    simp [or_assoc]
set_option maxRecDepth 100000 in
set_option maxHeartbeats 4000000 in
theorem or_it {w : World} {v : Value} {ls : List (List Int)} {R : List Nat} {Pl : Nat} (h : LSeq w v ls R) (cl : w.cell? ⟨Pl, 0, none⟩ = some v) (hm : ∀ l ∈ ls, l.length ≤ 300) (hn : ls.length ≤ 1000) :
    ItC Try.prog 66 #[.pointer (some ⟨Pl, 0, none⟩)] encK (fun xs _ => xs = orF ls) (fun pre _ => pre <+: orF ls) (orF ls).length (Pl :: R) [] w := by
  intro ly J Jx C T W hW hT hC hJ hJx hY h0
  have hPl : Pl < w.heap.size := by simpa using World.block_lt_of_cell? w _ cl
  have cl1 : W.cell? ⟨Pl, 0, none⟩ = some v := (World.cell?_of_block (hW.block Pl hPl (fun h => hT _ h (by simp)))).trans cl
  have h1 := Hidden.mk (h.mod hW (fun q hq hR => hT q hq (by simp [hR])))
  have hlen : Hidden (∀ i, (orF (ls.take i)).length ≤ 300000) := ⟨fun i => by
    have h1 := orF_len (ls := ls.take i) (m := 300) (fun l hl => hm l (List.mem_of_mem_take hl))
    have h2 : (ls.take i).length ≤ 1000 := by rw [List.length_take]; omega
    omega⟩
  obtain ⟨a, cap, rfl, -⟩ := id h
  have HS := Hidden.mk (And.intro h0 (And.intro hJ hC))
  have HM := Hidden.mk hm
  have HY := Hidden.mk hY
  have HJX := Hidden.mk hJx
  clear h hW hT hPl cl hm h0 hJ hC hY hJx
  obtain ⟨n, hn'⟩ : ∃ n, ls.length = n := ⟨_, rfl⟩
  rw [hn'] at cl1 h1 hn
  obtain ⟨L, hL⟩ : ∃ L, orF ls = L := ⟨_, rfl⟩
  have hlo : Hidden (L.length ≤ 300000) := ⟨by have := hlen.out ls.length; rw [List.take_length, hL] at this; exact this⟩
  have HL : Hidden (orF (ls.take n) = L) := ⟨by rw [← hn', List.take_length, hL]⟩
  rw [hL] at HY ⊢
  have HN := Hidden.mk hn'
  clear hn' hL
  refine (callsIn_wide (n := 4)).1 ?_
  refine callsIn_of_wp Try.func66 rfl trivial ?_ rfl
  simp only [Try.ntmps66, List.size_toArray, List.length_cons, List.length_nil, Nat.reduceAdd, Nat.reduceSub, Array.replicate_succ, Array.replicate_zero, List.push_toArray, List.append_toArray, List.nil_append, List.cons_append]
  gi_wp2_with fail
  gi_loopw [3, 10] (fun va iv wr => ∃ (i : Nat), i ≤ n ∧ iv = .int .i64 i ∧ ISl .u64 wr va (orF (ls.take i)) ∧ Mod [] W wr ∧ ∀ b ∈ rb va, W.heap.size ≤ b) (fun _ iv _ => n - (intOf iv).toNat)
  case atStart => exact ⟨0, Nat.zero_le _, rfl, ISl.nil_ _ _, Mod.refl _ _, by simp [rb, Value.ownBlock]⟩
  case round =>
    clear cl1
    obtain ⟨i, hi, rfl, hI, hmo, hge⟩ := hrel
    by_cases hin : i < n
    · obtain ⟨b, off, u, l, Ri, rfl, hl, hu, hs⟩ := (h1.out.news hmo).get (i := i) (by rw [HN.out]; exact hin)
      have hd : decide ((i : Int) < (n : Int)) = true := decide_eq_true (by omega)
      have hw1 : IntKind.i64.wrap ((i : Int) + 1) = i + 1 := IntWalk.i64_in _ (by omega)
      have hl3 : l.length ≤ 300 := HM.out l (List.mem_of_getElem? hl)
      have htk : Hidden (orF (ls.take (i + 1)) = twoL (orF (ls.take i)) l) := ⟨by rw [List.take_add_one, hl]; exact orF_snoc _ _⟩
      have HK := Hidden.mk (sift_keys hs (by omega))
      have HE := Hidden.mk (And.intro hI (And.intro hmo hge))
      obtain ⟨pv, kv, rfl, -⟩ := hI.slice_
      have hli := hlen.out i
      clear hI hmo hge hs hl
      gi_wp2_with fail
      refine ⟨trivial, ?_⟩
      refine (callsIn_wide.2 HK.out).mono ?_
      rintro e w1 ⟨v1, rfl, hv1, hm1, -⟩
      have HT := Hidden.mk (sift_two (HE.out.1.news hm1) hv1 (by omega) (by omega))
      have H1 := Hidden.mk hm1
      obtain ⟨pw, kw, rfl, -⟩ := hv1.slice_
      clear hm1 hv1 HK hu
      gi_wp2_with fail
      refine ⟨trivial, ?_⟩
      refine (callsIn_wide.2 HT.out).mono ?_
      rintro e w2 ⟨v2, rfl, hv2, hm2, hg2⟩
      have H2 := Hidden.mk (And.intro hv2 (And.intro hm2 hg2))
      clear hv2 hm2 hg2 HT
      gi_wp2_with fail
      go_roundw
      case rel => exact ⟨i + 1, by omega, by go_num, by rw [htk.out]; exact H2.out.1, (HE.out.2.1.trans H1.out (by simp)).trans H2.out.2.1 (by simp), fun b hb => by have h3 := H2.out.2.2 b hb; have h4 := H1.out.size; have h5 := HE.out.2.1.size; omega⟩
      case measure => simp [intOf]; omega
    · obtain rfl : i = n := by omega
      have hd : decide ((i : Int) < (i : Int)) = false := decide_eq_false (by omega)
      rw [HL.out] at hI
      have hlo2 := hlo.out
      obtain ⟨row, hrow⟩ : ∃ row, rbl u3 L = row := ⟨_, rfl⟩
      obtain ⟨S1, hS1⟩ : ∃ S1, wr.heap.size = S1 := ⟨_, rfl⟩
      have HS1 := Hidden.mk hS1
      have HR : Hidden (∀ q ∈ row, W.heap.size ≤ q ∧ q < S1) := ⟨fun q hq => by
        rw [← hrow] at hq
        refine ⟨?_, hS1 ▸ rbl_lt hI q hq⟩
        unfold rbl at hq
        split at hq
        · simp at hq
        · exact hge q hq⟩
      obtain ⟨pv, kv, rfl, -⟩ := hI.slice_
      have H1 := Hidden.mk (And.intro hI (And.intro hmo (HS.out.2.1 _ _ _ _ [] HS.out.1 hmo (by simp))))
      clear hI hmo hge hlen hlo2 hS1
      gi_wp2_with fail
      gi_loopw [7, 21] (fun _ iv wq => ∃ (j : Nat) (C2 : List Nat), j ≤ L.length ∧ iv = .int .i64 j ∧ ISl .u64 wq (.slice pv L.length kv) L ∧ (∀ q ∈ C2, q < wq.heap.size ∧ q ∉ row) ∧ J (L.take j) C2 wq ∧ S1 ≤ wq.heap.size) (fun _ iv _ => L.length - (intOf iv).toNat)
      case atStart => exact ⟨0, C, by omega, rfl, H1.out.1, fun q hq => ⟨by have h1 := (HS.out.2.2 q hq).1; have h2 := H1.out.2.1.size; omega, fun h => by have h1 := (HS.out.2.2 q hq).1; have := (HR.out q h).1; omega⟩, by simpa using H1.out.2.2, Nat.le_of_eq HS1.out.symm⟩
      case round =>
        obtain ⟨j, C2, hj, rfl, hI, hC2, hJ0, hsz⟩ := hrel
        have hlo2 := hlo.out
        by_cases hjn : j < L.length
        · obtain ⟨g, off, x, rfl, hg, hx, hc⟩ := hI.get hjn
          have hd2 : decide ((j : Int) < (L.length : Int)) = true := decide_eq_true (by omega)
          have hw2 : IntKind.i64.wrap ((j : Int) + 1) = j + 1 := IntWalk.i64_in _ (by omega)
          have htk : L.take (j + 1) = L.take j ++ [x] := by rw [List.take_add_one, hx]; rfl
          obtain ⟨fn, tmps, assign, body, hy, hRd⟩ := HY.out (L.take j) x C2 wr hJ0 (by simp; omega) (fun q hq => (hC2 q hq).1)
          rw [← htk] at hRd
          have HE := Hidden.mk (And.intro hI (And.intro hC2 hsz))
          clear hI hC2 hJ0 hsz htk hx
          gi_wp2_with fail
          refine hRd.mono ?_
          clear hRd hy
          rintro e W3 ⟨C3, hk3, hn3, ⟨rfl, hJ3⟩ | ⟨rfl, hJ3⟩⟩
          · have hI3 := HE.out.1.modl hk3 (fun b hb hC => (HE.out.2.1 b hC).2 (by rw [← hrow]; exact hb))
            have hC3 : ∀ q ∈ C3, q < W3.heap.size ∧ q ∉ row := fun q hq => by
              refine ⟨(hn3 q hq).2, ?_⟩
              rcases (hn3 q hq).1 with h1 | h1
              · exact (HE.out.2.1 q h1).2
              · intro h2
                have := (HR.out q h2).2
                have := HE.out.2.2
                omega
            have H3 := Hidden.mk (And.intro hI3 (And.intro hC3 (And.intro hJ3 (Nat.le_trans HE.out.2.2 hk3.size))))
            clear hI3 hC3 hJ3 hk3 hn3
            gi_wp2_with fail
            go_roundw
            case rel => exact ⟨j + 1, C3, by omega, by go_num, H3.out.1, H3.out.2.1, H3.out.2.2.1, H3.out.2.2.2⟩
            case measure => simp [intOf]; omega
          · have HX := Hidden.mk (And.intro hJ3 hn3)
            clear hJ3 hn3 hk3
            gi_wp2_with fail
            refine bodyPost_ret (results_none rfl _ _ _) rfl ?_
            exact ⟨⟨_, rfl⟩, C3, fun q hq => (HX.out.2 q hq).2, .inr ⟨_, List.take_prefix _ _, HX.out.1⟩⟩
        · obtain rfl : j = L.length := by omega
          have hd2 : decide ((L.length : Int) < (L.length : Int)) = false := decide_eq_false (by omega)
          have HE := Hidden.mk (And.intro hC2 hJ0)
          clear hI hC2 hJ0 hsz
          gi_wp2_with fail
          go_end0
          exact ⟨⟨_, rfl⟩, C2, fun q hq => (HE.out.1 q hq).1, .inl ⟨L, rfl, by have := HE.out.2; rwa [List.take_length] at this⟩⟩
end Go.Proofs.Ytfioekkegihkoaa
