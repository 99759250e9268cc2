/-
  slices.Insert at the element type 33: what it does to memory where one element is put in. Four roads: at the end or not, with room or without.
-/
import Derived.Test.YtdkancgcefklfaaProg
import Derived.Test.YtdkancgcefklfaaPK
namespace Go.Proofs.Ytdkancgcefklfaa
open Go.RowKit
set_option maxHeartbeats 4000000
set_option maxRecDepth 100000

theorem ins35_info : ∃ i z, Try.prog.info? 33 = some i ∧ i.zero = some z ∧ i.size = 3 ∧ i.bytes = 24 ∧ z.cells.size = 3 ∧ z.cells.toList.all (·.oneCell') = true :=
  info_of (by kernel_rfl)
theorem ins35_t : Try.prog.underlying 26 = some (.slice 33) := by kernel_rfl
/-- i = n, there is room -/
theorem ins35_end_room {w : World} {g n c : Nat} {cur news : List Value} {t : TypeId} {A : Addr} {vc : Nat} (hh : w.heap[g]? = some (.cells cur.toArray t (0, 0))) (hroom : n + 1 ≤ c) (hc : c * 3 ≤ cur.length) (hcm : c ≤ maxLen)
    (hnl : news.length = 3) (h1v : ∀ v ∈ news, v.oneCell' = true) (hv : ∀ (j : Nat) v, news[j]? = some v → w.cell? (A.add j) = some v) :
    Calls Try.prog 35 #[.slice (some ⟨g, 0, none⟩) n c, .int .i64 n, .slice (some A) 1 vc] w (InsPost 3 g n (cur.take (n * 3) ++ news) w) := by
  obtain ⟨i0, z, hi, hz, hs, hb, hzc, hz1⟩ := ins35_info
  have ht := ins35_t
  have hsrc : Src Try.prog i0.size 26 (.slice (some A) 1 vc) 1 news w := by
    rw [hs]; exact Src.ofSlice w ht A 1 vc news (by omega) hv h1v
  have hrun : ∀ ty, (Builtin.append_ #[26, 26] ty #[.slice (some ⟨g, 0, none⟩) n c, .slice (some A) 1 vc]).run Try.prog w = .ok (.slice (some ⟨g, 0, none⟩) (n + 1) c) (w.setRow g (setAtV cur (n * 3) news).toArray) := fun ty => by
    have h := run_append_room_src (P := Try.prog) w 26 26 ty 33 i0 ht hi g 0 n c _ 1 news hsrc hroom (fun j hj => by
      simp only [World.cell?, hh, hs]
      rw [List.getElem?_toArray, List.getElem?_eq_getElem (by omega)]; rfl) (fun j hj => by simp [World.frozen?, hh])
    rw [h, hs, Nat.zero_add, setCells_row (P := Try.prog) hh (by omega) h1v]
  go_enter Try.func35, Try.ntmps35
  go_wp2_with (at_builtin; refine Lib.wpList_append_run _ rfl _ _ _ _ rfl _ _ rfl rfl _ _ (hrun _) ?_)
  go_ret
  have hl : (cur.take (n * 3) ++ news).length = (n + 1) * 3 := by simp; omega
  refine ⟨g, c, cur.take (n * 3) ++ news, cur.drop (n * 3 + news.length), t, rfl, ?_, rfl, hroom, hcm, by simp; omega, .inl rfl, (Sm.refl g w).setSelf hh (by rw [List.size_toArray, List.size_toArray, setAtV_len (by omega)])⟩
  exact setRow_heap _ _ _ _ _ _ hh
/-- i = n, there is none -/
theorem ins35_end_grow {w : World} {g n c : Nat} {cur news : List Value} {t : TypeId} {A : Addr} {vc : Nat} (hh : w.heap[g]? = some (.cells cur.toArray t (0, 0))) (hn : n ≤ c) (hroom : c < n + 1) (hc : c * 3 ≤ cur.length) (hbig : (n + 1) * 24 ≤ 140737488355328)
    (hnl : news.length = 3) (h1v : ∀ v ∈ news, v.oneCell' = true) (hv : ∀ (j : Nat) v, news[j]? = some v → w.cell? (A.add j) = some v) :
    Calls Try.prog 35 #[.slice (some ⟨g, 0, none⟩) n c, .int .i64 n, .slice (some A) 1 vc] w (InsPost 3 g n (cur.take (n * 3) ++ news) w) := by
  obtain ⟨i0, z, hi, hz, hs, hb, hzc, hz1⟩ := ins35_info
  have ht := ins35_t
  have hsrc : Src Try.prog i0.size 26 (.slice (some A) 1 vc) 1 news w := by
    rw [hs]; exact Src.ofSlice w ht A 1 vc news (by omega) hv h1v
  have hold : (Builtin.firstCells i0.size n (.slice (some ⟨g, 0, none⟩) n c)).run Try.prog w.drew = .ok (cur.take (n * 3)).toArray w.drew := by
    rw [hs]
    have := firstCells_row (P := Try.prog) (W := w.drew) (g := g) (off := 0) (len := n) (cap := c) (sz := 3) (k := n) hh (by omega)
    rwa [List.drop_zero] at this
  obtain ⟨ex, c', hex, hc1, hc2, hrun⟩ : ∃ (ex : List Value) (c' : Nat), (cur.take (n * 3) ++ news ++ ex).length = c' * 3 ∧ n + 1 ≤ c' ∧ c' ≤ maxLen ∧ ∀ ty, (Builtin.append_ #[26, 26] ty #[.slice (some ⟨g, 0, none⟩) n c, .slice (some A) 1 vc]).run Try.prog w =
      .ok (.slice (some ⟨w.heap.size, 0, none⟩) (n + 1) c') (w.drew.alloc (.cells (cur.take (n * 3) ++ news ++ ex).toArray 33)) := by
    have hge := grownCap_ge w (n + 1) c 33
    have hcl := grownCap_le_maxLen w (n + 1) c 33 (by simp only [maxLen]; omega)
    refine ⟨(Builtin.zeroCells z.cells (grownCap w (n + 1) c 33 - (n + 1))).toList, _, ?_, hge, hcl, fun ty => ?_⟩
    · have : (Builtin.zeroCells z.cells (grownCap w (n + 1) c 33 - (n + 1))).size = (grownCap w (n + 1) c 33 - (n + 1)) * 3 := by rw [size_zeroCells, hzc]
      simp only [List.length_append, List.length_take, Array.length_toList, this]
      omega
    · have h := run_append_grow_src (P := Try.prog) w 26 26 ty 33 i0 z ht hi hz (some ⟨g, 0, none⟩) n c _ hold _ 1 news hsrc hroom (by omega) (by rw [hb]; exact growslice_fits hroom hbig)
      rw [h]
      congr 3
      apply Array.ext'; simp
  go_enter Try.func35, Try.ntmps35
  go_wp2_with (at_builtin; refine Lib.wpList_append_run _ rfl _ _ _ _ rfl _ _ rfl rfl _ _ (hrun _) ?_)
  all_goals go_ret
  all_goals exact ⟨w.heap.size, c', cur.take (n * 3) ++ news, ex, 33, rfl, by rw [List.append_assoc]; exact heap_alloc_new w _, rfl, hc1, hc2, by rw [hex]; exact Nat.le_refl _, .inr rfl, ((Sm.refl g w).drew).alloc (Array.getElem?_eq_some_iff.1 hh).1⟩
/-- i < n, there is room -/
theorem ins35_shift {w : World} {g n c i : Nat} {cur news : List Value} {t : TypeId} {A : Addr} {vc : Nat} (hh : w.heap[g]? = some (.cells cur.toArray t (0, 0))) (hi' : i < n) (hroom : n + 1 ≤ c) (hc : c * 3 ≤ cur.length) (hcm : c ≤ maxLen)
    (h1c : ∀ v ∈ cur.take (n * 3), v.oneCell' = true) (hA : A.spot = none) (hAg : A.block ≠ g)
    (hnl : news.length = 3) (h1v : ∀ v ∈ news, v.oneCell' = true) (hv : ∀ (j : Nat) v, news[j]? = some v → w.cell? (A.add j) = some v) :
    Calls Try.prog 35 #[.slice (some ⟨g, 0, none⟩) n c, .int .i64 i, .slice (some A) 1 vc] w (InsPost 3 g n (cur.take (i * 3) ++ news ++ (cur.take (n * 3)).drop (i * 3)) w) := by
  obtain ⟨i0, z, hi, hz, hs, hb, hzc, hz1⟩ := ins35_info
  have ht := ins35_t
  have hmax : maxLen = 9223372036854775807 := rfl
  have hz2 : ¬ ((i : Int) = (n : Int)) := by omega
  have hw1 : IntKind.i64.wrap ((i : Int) + 1) = (i : Int) + 1 := by rw [IntKind.wrap_i64]; omega
  have hw2 : IntKind.i64.wrap ((n : Int) + 1) = (n : Int) + 1 := by rw [IntKind.wrap_i64]; omega
  have hb1 : (0 : Int) ≤ (i : Int) + 1 := by omega
  have htn : ((i : Int) + 1).toNat = i + 1 := by omega
  have htn2 : ((n : Int) + 1).toNat = n + 1 := by omega
  have hb2 : ¬ (c = i + 1) := by omega
  have hb3 : (i : Int) ≤ (n : Int) + 1 := by omega
  have hb3' : (i : Int) + 1 ≤ (n : Int) + 1 := by omega
  have hb4 : ¬ (c = i) := by omega
  have hb5 : ¬ ((c : Int) < (n : Int) + 1) := by omega
  have hb6 : (0 : Int) ≤ (n : Int) + 1 := by omega
  have hb7 : (n : Int) + 1 ≤ (c : Int) := by omega
  have hin : i ≤ n := by omega
  have hin2 : (i : Int) ≤ (n : Int) := by omega
  have h0A : ∃ v0, w.cell? A = some v0 := by
    obtain ⟨v0, h0⟩ : ∃ v0, news[0]? = some v0 := ⟨_, List.getElem?_eq_getElem (by omega)⟩
    have := hv 0 v0 h0
    obtain ⟨ab, ao, asp⟩ := A
    subst hA
    rw [addr_at, Nat.add_zero] at this
    exact ⟨v0, this⟩
  obtain ⟨v0, h0A⟩ := h0A
  have hov : ∀ (W : World), W.heap = w.heap → ∀ off lb cb, (callFunc 45 #[.slice (some A) 1 vc, .slice (some ⟨g, off, none⟩) lb cb]).run Try.prog W = .ok (.value (.bool false)) W := fun W hW off lb cb => by
    rw [run_callFunc_extern Try.func45 (by kernel_rfl) (by kernel_rfl) (by kernel_rfl) (e := Extern.SlicesOverlaps.overlaps #[26, 26] #[4]) (by kernel_rfl),
      run_overlaps_row (P := Try.prog) W ht hi (a := A) (b := ⟨g, off, none⟩) hAg (cur := cur) (t := t) (by rw [hW]; exact hh) (by rintro rfl; simp at hc; omega) (v := v0) (by rw [← h0A]; unfold World.cell?; rw [hW])]
    rfl
  obtain ⟨tl, htl⟩ : ∃ tl, tl = (cur.take (n * 3)).drop (i * 3) := ⟨_, rfl⟩
  have htll : tl.length = (n - i) * 3 := by rw [htl]; simp; omega
  have htl1 : ∀ v ∈ tl, v.oneCell' = true := fun v hv => h1c v (by rw [htl] at hv; exact List.mem_of_mem_drop hv)
  have hcp1 : ∀ (W : World), W.heap = w.heap → ∀ ty dl dc sc, dl = n - i → (Builtin.copy_ #[26, 26] ty #[.slice (some ⟨g, (i + 1) * 3, none⟩) dl dc, .slice (some ⟨g, i * 3, none⟩) (n + 1 - i) sc]).run Try.prog W =
      .ok (.int .i64 ((n - i : Nat) : Int)) (W.setRow g (setAtV cur ((i + 1) * 3) tl).toArray) := fun W hW ty dl dc sc hdl => by
    refine run_copy_seg W ht hi (sLen := n + 1 - i) (by rw [hW]; exact hh) rfl (by omega) ?_ (by rw [htll]; omega) htl1
    rw [hs]
    have := firstCells_row (P := Try.prog) (W := W) (g := g) (off := i * 3) (len := n + 1 - i) (cap := sc) (sz := 3) (k := n - i) (cur := cur) (t := t) (by rw [hW]; exact hh) (by omega)
    rw [this, htl, List.drop_take, Nat.sub_mul]
  obtain ⟨cur1, hcur1⟩ : ∃ cur1, cur1 = setAtV cur ((i + 1) * 3) tl := ⟨_, rfl⟩
  have hc1l : cur1.length = cur.length := by rw [hcur1]; simp only [setAtV, List.length_append, List.length_take, List.length_drop, htll]; omega
  rw [← hcur1] at hcp1
  have hcp2 : ∀ (W : World), W.heap = (w.setRow g cur1.toArray).heap → ∀ ty dc, (Builtin.copy_ #[26, 26] ty #[.slice (some ⟨g, i * 3, none⟩) (n + 1 - i) dc, .slice (some A) 1 vc]).run Try.prog W =
      .ok (.int .i64 (1 : Int)) (W.setRow g (setAtV cur1 (i * 3) news).toArray) := fun W hW ty dc => by
    refine run_copy_seg W ht hi (sLen := 1) (k := 1) (t := t) (by rw [hW]; exact setRow_heap _ _ _ _ _ _ hh) rfl (by omega) ?_ (by rw [hnl]; omega) h1v
    rw [hs]
    refine run_firstCells_some W 3 1 A 1 vc news (by omega) fun j u hj => ?_
    have := hv j u hj
    obtain ⟨ab, ao, asp⟩ := A
    simp only at hA hAg; subst hA
    rw [addr_at] at this ⊢
    rw [← this]
    simp only [World.cell?, hW, setRow_other hAg]
  have hfin := ins_list (cur := cur) (news := news) (sz := 3) hi' (by omega) hnl
  rw [← htl, ← hcur1] at hfin
  have hfl : ((cur.take (i * 3) ++ news ++ tl) ++ cur.drop ((n + 1) * 3)).length = cur.length := by rw [← hfin, setAtV_len (by omega)]; exact hc1l
  have hpost : InsPost 3 g n (cur.take (i * 3) ++ news ++ tl) w (.returned (.slice (some ⟨g, 0, none⟩) (n + 1) c)) ((w.drew.setRow g cur1.toArray).setRow g (setAtV cur1 (i * 3) news).toArray) :=
    ⟨g, c, _, cur.drop ((n + 1) * 3), t, rfl, by rw [← hfin]; exact setRow_heap _ _ _ _ _ _ (setRow_heap w.drew _ _ _ _ _ hh), rfl, hroom, hcm, by rw [hfl]; exact hc, .inl rfl, (((Sm.refl g w).drew).setSelf (w' := w.drew) hh (by simp [hc1l])).setSelf (setRow_heap w.drew _ _ _ _ _ hh) (by rw [List.size_toArray, List.size_toArray, setAtV_len (by omega)])⟩
  rw [htl] at hpost
  clear hcur1 hfin htl hfl
  have hov2 : ∀ off lb cb, (callFunc 45 #[.slice (some A) 1 vc, .slice (some ⟨g, off, none⟩) lb cb]).run Try.prog w = .ok (.value (.bool false)) w := fun off lb cb => hov w rfl off lb cb
  have mixed : Try.prog.follows .mixedOrders = true := by kernel_rfl
  go_enter Try.func35, Try.ntmps35
  go_wp2_with (simp only [hov2])
  go_region_law_o (refine step_copy2 rfl _ _ 26 26 rfl _ _ (by simp [Act.eval, Act.put]) (by simp [Act.eval, Act.put]) (hcp1 w.drew rfl _ (n - i) (c - (i + 1)) (c - i) rfl) ?_)
  have hcp3 : ∀ ty dc, (Builtin.copy_ #[26, 26] ty #[.slice (some ⟨g, i * 3, none⟩) (n + 1 - i) dc, .slice (some A) 1 vc]).run Try.prog (w.drew.setRow g cur1.toArray) =
      .ok (.int .i64 (1 : Int)) ((w.drew.setRow g cur1.toArray).setRow g (setAtV cur1 (i * 3) news).toArray) := fun ty dc => hcp2 (w.drew.setRow g cur1.toArray) rfl ty dc
  go_wp2_with (simp only [hcp3])
  go_ret
  exact hpost
/-- i < n, there is none -/
theorem ins35_grow {w : World} {g n c i : Nat} {cur news : List Value} {t : TypeId} {A : Addr} {vc : Nat} (hh : w.heap[g]? = some (.cells cur.toArray t (0, 0))) (hi' : i < n) (hn : n ≤ c) (hroom : c < n + 1) (hc : c * 3 ≤ cur.length) (hbig : (n + 1) * 24 ≤ 140737488355328)
    (h1c : ∀ v ∈ cur.take (n * 3), v.oneCell' = true) (hA : A.spot = none) (hAw : A.block < w.heap.size)
    (hnl : news.length = 3) (h1v : ∀ v ∈ news, v.oneCell' = true) (hv : ∀ (j : Nat) v, news[j]? = some v → w.cell? (A.add j) = some v) :
    Calls Try.prog 35 #[.slice (some ⟨g, 0, none⟩) n c, .int .i64 i, .slice (some A) 1 vc] w (InsPost 3 g n (cur.take (i * 3) ++ news ++ (cur.take (n * 3)).drop (i * 3)) w) := by
  obtain ⟨i0, z, hi, hz, hs, hb, hzc, hz1⟩ := ins35_info
  have ht := ins35_t
  have hti : Try.prog.underlying 3 = some (.int .i64) := by kernel_rfl
  have hmax : maxLen = 9223372036854775807 := rfl
  have hgl : g < w.heap.size := (Array.getElem?_eq_some_iff.1 hh).1
  have hcn : c = n := by omega
  subst hcn
  have hz2 : ¬ ((i : Int) = (c : Int)) := by omega
  have hw1 : IntKind.i64.wrap ((i : Int) + 1) = (i : Int) + 1 := by rw [IntKind.wrap_i64]; omega
  have hw2 : IntKind.i64.wrap ((c : Int) + 1) = (c : Int) + 1 := by rw [IntKind.wrap_i64]; omega
  have hw3 : IntKind.i64.wrap ((c : Int) + 1 - (i : Int)) = (c : Int) + 1 - (i : Int) := by rw [IntKind.wrap_i64]; omega
  have hb1 : (0 : Int) ≤ (i : Int) + 1 := by omega
  have htn : ((i : Int) + 1).toNat = i + 1 := by omega
  have hb5 : (c : Int) < (c : Int) + 1 := by omega
  have hin : i ≤ c := by omega
  have hin1 : i ≤ c + 1 := by omega
  have hin2 : (i : Int) ≤ (c : Int) := by omega
  have hin3 : (i : Int) ≤ (c : Int) + 1 := by omega
  have hin4 : (i : Int) + 1 ≤ (c : Int) + 1 := by omega
  have hb4 : ¬ (c = i) := by omega
  have hold : (Builtin.firstCells i0.size i (.slice (some ⟨g, 0, none⟩) i c)).run Try.prog w.drew = .ok (cur.take (i * 3)).toArray w.drew := by
    rw [hs]
    have := firstCells_row (P := Try.prog) (W := w.drew) (g := g) (off := 0) (len := i) (cap := c) (sz := 3) (k := i) hh (by omega)
    rwa [List.drop_zero] at this
  obtain ⟨Z, c', hZ, hc1, hc2, hrun⟩ : ∃ (Z : List Value) (c' : Nat), (cur.take (i * 3) ++ Z).length = c' * 3 ∧ c + 1 ≤ c' ∧ c' ≤ maxLen ∧ ∀ ty, (Builtin.append_ #[26, 3] ty #[.slice (some ⟨g, 0, none⟩) i c, .int .i64 ((c : Int) + 1 - (i : Int))]).run Try.prog w =
      .ok (.slice (some ⟨w.heap.size, 0, none⟩) (c + 1) c') (w.drew.alloc (.cells (cur.take (i * 3) ++ Z).toArray 33)) := by
    have hge := grownCap_ge w (c + 1) c 33
    have hcl := grownCap_le_maxLen w (c + 1) c 33 (by simp only [maxLen]; omega)
    have hik : i + (c + 1 - i) = c + 1 := by omega
    refine ⟨(Builtin.zeroCells z.cells (c + 1 - i)).toList ++ (Builtin.zeroCells z.cells (grownCap w (c + 1) c 33 - (c + 1))).toList, _, ?_, hge, hcl, fun ty => ?_⟩
    · have h1 : ∀ k, (Builtin.zeroCells z.cells k).toList.length = k * 3 := fun k => by rw [Array.length_toList, size_zeroCells, hzc]
      rw [List.length_append, List.length_append, h1, h1, List.length_take]
      omega
    · have h := Lib.run_append_grow_zeros (P := Try.prog) w 26 3 ty 33 i0 z .i64 .i64 ht hti hi hz (some ⟨g, 0, none⟩) i c _ hold (c + 1 - i) (by omega) (by omega) (by omega) (by omega) (by rw [hb]; omega) (by rw [hb, hik]; exact growslice_fits hroom hbig)
      rw [hik] at h
      rw [show ((c : Int) + 1 - (i : Int)) = ((c + 1 - i : Nat) : Int) by omega, h]
      congr 3
      apply Array.ext'; simp
  obtain ⟨tl, htl⟩ : ∃ tl, tl = (cur.take (c * 3)).drop (i * 3) := ⟨_, rfl⟩
  have htll : tl.length = (c - i) * 3 := by rw [htl]; simp; omega
  have htl1 : ∀ v ∈ tl, v.oneCell' = true := fun v hv => h1c v (by rw [htl] at hv; exact List.mem_of_mem_drop hv)
  have hXl : (cur.take (i * 3)).length = i * 3 := by rw [List.length_take]; omega
  obtain ⟨vs, hvs⟩ := ins_list2 (news := news) (T := tl) hXl (by rw [hZ, hnl, htll]; omega)
  rw [hnl, show i * 3 + 3 = (i + 1) * 3 by omega] at hvs
  obtain ⟨row, hrow⟩ : ∃ row, row = cur.take (i * 3) ++ Z := ⟨_, rfl⟩
  rw [← hrow] at hvs hZ hrun
  obtain ⟨row1, hrow1⟩ : ∃ row1, row1 = setAtV row (i * 3) news := ⟨_, rfl⟩
  have hr1l : row1.length = c' * 3 := by rw [hrow1, setAtV_len (by omega), hZ]
  rw [← hrow1] at hvs
  have hvl : ((cur.take (i * 3) ++ news ++ tl) ++ vs).length = c' * 3 := by rw [← hvs, setAtV_len (by omega), hr1l]
  obtain ⟨N, hN⟩ : ∃ N, N = w.heap.size := ⟨_, rfl⟩
  have hA1 : ∀ (w' : World), w'.heap[N]? = (w.heap.push (.cells row.toArray 33))[N]? → w'.heap[N]? = some (.cells row.toArray 33 (0, 0)) := fun w' h => by rw [h, hN]; simp
  have hne : A.block ≠ N := by omega
  have hgN : g ≠ N := by omega
  obtain ⟨W1, hW1⟩ : ∃ W1, W1 = w.alloc (.cells row.toArray 33) := ⟨_, rfl⟩
  have hW1h : W1.heap = w.heap.push (.cells row.toArray 33) := by rw [hW1]; rfl
  have hW1N : W1.heap[N]? = some (.cells row.toArray 33 (0, 0)) := by rw [hW1h, hN]; simp
  have hW1o : ∀ k, k < N → W1.heap[k]? = w.heap[k]? := fun k hk => by rw [hW1h, Array.getElem?_push_lt (by omega), ← Array.getElem?_eq_getElem (by omega)]
  have hcp1 : ∀ ty dc, (Builtin.copy_ #[26, 26] ty #[.slice (some ⟨N, i * 3, none⟩) (c + 1 - i) dc, .slice (some A) 1 vc]).run Try.prog W1.drew =
      .ok (.int .i64 (1 : Int)) (W1.drew.setRow N row1.toArray) := fun ty dc => by
    rw [hrow1]
    refine run_copy_seg W1.drew ht hi (sLen := 1) (k := 1) (t := 33) hW1N rfl (by omega) ?_ (by rw [hnl, hZ]; omega) h1v
    rw [hs]
    refine run_firstCells_some W1.drew 3 1 A 1 vc news (by omega) fun j u hj => ?_
    have := hv j u hj
    obtain ⟨ab, ao, asp⟩ := A
    simp only at hA hAw; subst hA
    rw [addr_at] at this ⊢
    rw [← this]
    have h3 : W1.drew.heap[ab]? = w.heap[ab]? := hW1o ab (by omega)
    simp only [World.cell?, h3]
  have hcp2 : ∀ (W : World), W.heap = (W1.setRow N row1.toArray).heap → ∀ ty dl dc sc, dl = c - i → (Builtin.copy_ #[26, 26] ty #[.slice (some ⟨N, (i + 1) * 3, none⟩) dl dc, .slice (some ⟨g, i * 3, none⟩) (c - i) sc]).run Try.prog W =
      .ok (.int .i64 ((c - i : Nat) : Int)) (W.setRow N (setAtV row1 ((i + 1) * 3) tl).toArray) := fun W hW ty dl dc sc hdl => by
    refine run_copy_seg W ht hi (sLen := c - i) (t := 33) (by rw [hW]; exact setRow_heap _ _ _ _ _ _ hW1N) rfl (by omega) ?_ (by rw [htll, hr1l]; omega) htl1
    rw [hs]
    have := firstCells_row (P := Try.prog) (W := W) (g := g) (off := i * 3) (len := c - i) (cap := sc) (sz := 3) (k := c - i) (cur := cur) (t := t) (by rw [hW, setRow_other hgN, hW1o g (by omega)]; exact hh) (by omega)
    rw [this, htl, List.drop_take, Nat.sub_mul]
  have hcp3 : ∀ ty dc sc, (Builtin.copy_ #[26, 26] ty #[.slice (some ⟨N, (i + 1) * 3, none⟩) (c - i) dc, .slice (some ⟨g, i * 3, none⟩) (c - i) sc]).run Try.prog (W1.drew.setRow N row1.toArray).drew =
      .ok (.int .i64 ((c - i : Nat) : Int)) ((W1.drew.setRow N row1.toArray).drew.setRow N (setAtV row1 ((i + 1) * 3) tl).toArray) := fun ty dc sc => hcp2 (W1.drew.setRow N row1.toArray).drew rfl _ _ _ _ rfl
  have hrz : ∀ ty, (Builtin.append_ #[26, 3] ty #[.slice (some ⟨g, 0, none⟩) i c, .int .i64 ((c : Int) + 1 - (i : Int))]).run Try.prog w =
      .ok (.slice (some ⟨N, 0, none⟩) (c + 1) c') W1.drew := fun ty => by rw [hrun ty, hW1, hN]; rfl
  have hpost : InsPost 3 g c (cur.take (i * 3) ++ news ++ tl) w (.returned (.slice (some ⟨N, 0, none⟩) (c + 1) c')) ((W1.drew.setRow N row1.toArray).drew.setRow N (setAtV row1 ((i + 1) * 3) tl).toArray) :=
    ⟨N, c', _, vs, 33, rfl, by rw [← hvs]; exact setRow_heap _ _ _ _ _ _ (setRow_heap W1.drew _ _ _ _ _ hW1N), rfl, hc1, hc2, by rw [hvl]; exact Nat.le_refl _, .inr hN,
      ((((by rw [hW1]; exact ((Sm.refl g w).alloc hgl).drew : Sm g w W1.drew)).setRow hgl (by omega)).drew).setRow hgl (by omega)⟩
  rw [show cur.take (i * 3) ++ news ++ tl = cur.take (i * 3) ++ news ++ (cur.take (c * 3)).drop (i * 3) by rw [htl]] at hpost
  clear hcp2 hrun hvs hrow hrow1 htl hvl hW1 hW1h hW1N hW1o hA1 hold hN
  have hb6 : ¬ (c' = i + 1) := by omega
  have hb7 : ¬ (c' = i) := by omega
  have mixed : Try.prog.follows .mixedOrders = true := by kernel_rfl
  go_enter Try.func35, Try.ntmps35
  go_wp2_with (first
    | (at_builtin; refine Lib.wpList_append_run _ rfl _ _ _ _ rfl _ _ rfl rfl _ _ (hrz _) ?_)
    | (simp only [hcp1]))
  go_region_law_o (refine step_copy2 rfl _ _ 26 26 rfl _ _ (by simp [Act.eval, Act.put]) (by simp [Act.eval, Act.put]) (hcp3 _ (c' - (i + 1)) (c - i)) ?_)
  go_wp2
  go_ret
  exact hpost
theorem ins35 : InsOk Try.prog 35 3 24 := by
  refine ⟨by decide, fun w g n c i cur news t A vc hh h1 h2 hc hcm hbig h1c hA hAw hAg hnl h1v hv => ?_⟩
  by_cases hi : i < n
  · by_cases hr : n + 1 ≤ c
    · exact ins35_shift hh hi hr hc hcm h1c hA hAg hnl h1v hv
    · exact ins35_grow hh hi h2 (by omega) hc hbig h1c hA hAw hnl h1v hv
  · obtain rfl : i = n := by omega
    rw [show (cur.take (i * 3)).drop (i * 3) = [] from List.drop_eq_nil_of_le (by rw [List.length_take]; omega), List.append_nil]
    by_cases hr : i + 1 ≤ c
    · exact ins35_end_room hh hr hc hcm hnl h1v hv
    · exact ins35_end_grow hh h2 (by omega) hc hbig hnl h1v hv
end Go.Proofs.Ytdkancgcefklfaa
