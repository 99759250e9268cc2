/-
  append onto a row of the frame's own.
-/
import Derived.Test.YtdkancgcefklfaaP8
namespace Go.Proofs.Ytdkancgcefklfaa
open Go.RowKit
section
variable {P : Program} {nt : Nat} {w0 : World} {G0 : List Nat} {D Dp : Nat → Nat → Prop} {G : List Nat} {R : List (Option Rec)} {st : St} {a : Act} {w : World} {o : Oper}

/-- what is appended: its cells, however they come -/
theorem src_sl {sz s2 : Nat} {tx : TypeId} {ds : List (List PV)} {o2 : Own} {u : Value} (hk : (∃ e', P.underlying tx = some (.slice e')) ∨ P.underlying tx = some .string)
    (h : Rel (fenv w0 D Dp w G R st.rw) (.sl s2 ds o2) u) (hs : s2 = sz ∨ ds = []) :
    ∃ news, Src P sz tx u ds.length news w ∧ RelL (fenv w0 D Dp w G R st.rw).sh ds.flatten news ∧ ∀ d ∈ ds, d.length = sz := by
  obtain ⟨A, cap, us, rfl, hR, h1, _, _, _, hA0, hm, _, hsz⟩ := h.inv_sl
  have hsz' : ∀ d ∈ ds, d.length = sz := fun d hd => by
    rcases hs with rfl | rfl
    · exact hsz d hd
    · cases hd
  have hl : us.length = ds.length * sz := by rw [hR.1, flat_len hsz']
  refine ⟨us, ?_, hR, hsz'⟩
  cases A with
  | none =>
    have hn : us = [] := by
      cases us with
      | nil => rfl
      | cons x r => obtain ⟨b, o, e, _⟩ := hm (by simp); cases e
    subst hn
    exact ⟨hk, fun _ => rfl, run_firstCells_none w sz _ _ _, run_firstCells_none w.drew sz _ _ _, hl, h1⟩
  | some ad =>
    have hc : ∀ (j : Nat) u, us[j]? = some u → w.cell? (ad.add j) = some u := by
      intro j u hu
      obtain ⟨b, o, e, _, hc⟩ := hm (by rintro rfl; simp at hu)
      simp only [Option.some.injEq] at e
      subst e
      rw [addr_add]; exact hc j u hu
    exact ⟨hk, fun _ => rfl, run_firstCells_some w sz ds.length ad ds.length cap us hl hc, run_firstCells_some w.drew sz ds.length ad ds.length cap us hl (by simpa using hc), hl, h1⟩
theorem src_str {E : Env} {tx : TypeId} (l : List UInt8) (hk : (∃ e', P.underlying tx = some (.slice e')) ∨ P.underlying tx = some .string) :
    ∃ news, Src P 1 tx (.string ⟨l.toArray⟩) (l.map fun c => [PV.v (.int .u8 c.toNat)]).length news w ∧ RelL E.sh (l.map fun c => [PV.v (.int .u8 c.toNat)]).flatten news ∧ ∀ d ∈ (l.map fun c => [PV.v (.int .u8 c.toNat)]), d.length = 1 := by
  have hb : byteCells ⟨l.toArray⟩ = l.map bV := by simp [byteCells, bV]
  have hs := str_size l
  have h1 := firstCells_string (P := P) ⟨l.toArray⟩ w
  have h2 := firstCells_string (P := P) ⟨l.toArray⟩ w.drew
  rw [hb, hs] at h1 h2
  refine ⟨l.map bV, ⟨hk, fun w' => ?_, ?_, ?_, by simp, map_bV_one l⟩, ⟨by rw [flat_sing]; simp, fun j p u hp hu => ?_⟩, fun d hd => by simp at hd; obtain ⟨_, _, rfl⟩ := hd; rfl⟩
  · simp [Builtin.lenOf, hs]
  · simpa using h1
  · simpa using h2
  · rw [flat_sing, List.getElem?_map, Option.map_eq_some_iff] at hp
    obtain ⟨c, hc, rfl⟩ := hp
    rw [List.getElem?_map, hc] at hu
    simp at hu; subst hu
    exact .v _ _

theorem src_elems {sz : Nat} {tx : TypeId} {q : PV} {ds : List (List PV)} {x : Value} (hF : FI nt w0 G0 D Dp G R st a w) (hk : (∃ e', P.underlying tx = some (.slice e')) ∨ P.underlying tx = some .string)
    (h : Rel (fenv w0 D Dp w G R st.rw) q x) (he : elems st.bx sz q = some ds) : ∃ news, Src P sz tx x ds.length news w ∧ RelL (fenv w0 D Dp w G R st.rw).sh ds.flatten news ∧ ∀ d ∈ ds, d.length = sz := by
  cases q with
  | sl s es o =>
    simp only [elems] at he
    split at he
    · rename_i hs; simp at he; subst he; exact src_sl hk h hs
    · cases he
  | sb i s off n cap =>
    simp only [elems] at he
    split at he
    · rename_i hs
      obtain ⟨rfl, hlen⟩ := hs
      simp only [Option.some.injEq] at he; subst he
      obtain ⟨g, c, rfl, hg, k1, k2, k3, cs, ty, k4, k5⟩ := h.inv_sb
      have hgl : i < st.bx.length := by
        have := (List.getElem?_eq_some_iff.1 hg).1
        rw [hF.bxn] at this; exact this
      obtain ⟨us, vs, ty2, hh, hR, h1c⟩ := hF.bxs.bx i g _ hg (List.getElem?_eq_getElem hgl)
      have hgd : st.bx.getD i [] = st.bx[i] := by rw [List.getD_eq_getElem?_getD, List.getElem?_eq_getElem hgl]; rfl
      rw [hgd] at hlen ⊢
      obtain ⟨c1, c2, c3⟩ := chunk_spec s n ((st.bx[i].drop off).map PV.sh1) (by simp; omega)
      have hR2 := ((hR.drop off).sh1).take (n * s)
      rw [← c2] at hR2
      have hul : ((us.drop off).take (n * s)).length = n * s := by rw [List.length_take, List.length_drop, hR.1]; omega
      have hc : ∀ (j : Nat) u, ((us.drop off).take (n * s))[j]? = some u → w.cell? ((⟨g, off, none⟩ : Addr).add j) = some u := by
        intro j u hu
        rw [addr_add, cell_of_row w g _ _ ty2 (0, 0) hh]
        rw [List.getElem?_take] at hu
        split at hu
        · rw [List.getElem?_drop] at hu; exact app_get hu
        · cases hu
      rw [c1]
      exact ⟨_, ⟨hk, fun _ => rfl, run_firstCells_some w s n ⟨g, off, none⟩ n c _ hul hc, run_firstCells_some w.drew s n ⟨g, off, none⟩ n c _ hul (by simpa using hc), hul, fun y hy => h1c y (List.mem_of_mem_drop (List.mem_of_mem_take hy))⟩, hR2, c3⟩
    · cases he
  | v y =>
    cases y with
    | string t =>
      simp only [elems] at he
      split at he
      · rename_i hs; subst hs
        simp only [Option.some.injEq] at he; subst he
        rw [h.inv_v]
        have ht : t = ⟨t.data.toList.toArray⟩ := by cases t; simp
        have := src_str (P := P) (w := w) (E := fenv w0 D Dp w G R st.rw) t.data.toList hk
        rw [← ht] at this
        exact this
      · cases he
    | _ => simp [elems] at he
  | _ => simp [elems] at he
theorem Kept.turn (h : Kept G0 w0 w) {g : Nat} {C : Array Value} (hg : w0.heap.size ≤ g) : Kept G0 w0 (w.setRow g C) := by
  refine ⟨h.os, h.tape, h.output, by rw [setRow_size]; exact h.size, fun k hk hkG => ?_, fun g' cs t' hg' hc => ?_⟩
  · rw [setRow_other w g k _ (by omega)]; exact h.block k hk hkG
  · have : g' < w0.heap.size := (Array.getElem?_eq_some_iff.1 hc).1
    obtain ⟨cs1, k1, k2⟩ := h.bsz g' cs t' hg' hc
    exact ⟨cs1, by rw [setRow_other w g g' _ (by omega)]; exact k1, k2⟩
/-- the frame's world and rows move on -/
theorem FI.rowstep (hF : FI nt w0 G0 D Dp G R st a w) {w' : World} {R' : List (Option Rec)} {rw' : List Nat} (hle : (fenv w0 D Dp w G R st.rw).Le (fenv w0 D Dp w' G R' rw')) (hb : Kept G0 w0 w')
    (hG : ∀ g ∈ G, w'.heap[g]? = w.heap[g]?) (hn : R'.length = rw'.length)
    (hr : ∀ (k : Nat) r n, R'[k]? = some (some r) → rw'[k]? = some n → w0.heap.size ≤ r.g ∧ r.g ∉ G ∧ ∃ xs, w'.ownsRow w0.heap.size r.e r.sz (.slice (some ⟨r.g, 0, none⟩) n r.cap) n xs)
    (hi : ∀ (k k' : Nat) r r', R'[k]? = some (some r) → R'[k']? = some (some r') → r.g = r'.g → k = k') : FI nt w0 G0 D Dp G R' ⟨st.s, st.bx, rw'⟩ a w' := by
  refine ⟨hb, hF.g0, hF.gnew, hF.defers, hF.size, fun i h => (hF.slots i h).mono hle, ⟨hF.bxn, ?_, hF.gn⟩, hn, hr, hi⟩
  intro i g cs hg hc
  obtain ⟨us, vs, t, h2, h3, h4⟩ := hF.bxs.bx i g cs hg hc
  exact ⟨us, vs, t, by show w'.heap[g]? = _; rw [hG g (List.mem_of_getElem? hg)]; exact h2, h3.mono hle, h4⟩
theorem set_same {α : Type} {l : List α} {k : Nat} {x : α} (h : l[k]? = some x) : l.set k x = l := by
  apply List.ext_getElem?
  intro j
  by_cases hj : k = j
  · subst hj; rw [List.getElem?_set_self (List.getElem?_eq_some_iff.1 h).1, h]
  · rw [List.getElem?_set_ne hj]

/-- append of m elements onto row k -/
theorem FI.append (_hD : DomOk w0 D) (hF : FI nt w0 G0 D Dp G R st a w) {t tx ty e : TypeId} {i : TypeInfo} {z : Value} (ht : P.underlying t = some (.slice e)) (hi : P.info? e = some i) (hz : i.zero = some z) (hzs : z.cells.size = i.size) (_hsz0 : 0 < i.size)
    {es ds : List (List PV)} {k : Nat} {u x : Value} (hu : Rel (fenv w0 D Dp w G R st.rw) (.sl i.size es (.id k)) u) (hk : st.rw[k]? = some es.length) {news : List Value} (hsrc : Src P i.size tx x ds.length news w)
    (hnew : RelL (fenv w0 D Dp w G R st.rw).sh ds.flatten news) (hds : ∀ d ∈ ds, d.length = i.size) (hby : (es.length + ds.length) * i.bytes ≤ 140737488355328) (h63 : es.length + ds.length ≤ 9223372036854775807) :
    ∃ u' w' R', (Builtin.append_ #[t, tx] ty #[u, x]).run P w = .ok u' w' ∧ FI nt w0 G0 D Dp G R' ⟨st.s, st.bx, st.rw.set k (es.length + ds.length)⟩ a w' ∧ Rel (fenv w0 D Dp w' G R' (st.rw.set k (es.length + ds.length))) (.sl i.size (es ++ ds) (.id k)) u' := by
  obtain ⟨A, cap, us, rfl, hR, h1, hnc, hcm, hA, hA0, hm, hown, hsz⟩ := hu.inv_sl
  by_cases hd0 : ds = []
  · subst hd0
    have hnil : news = [] := List.eq_nil_of_length_eq_zero (by rw [hnew.1]; rfl)
    subst hnil
    refine ⟨_, w, R, run_append_nothing w t tx ty e i ht hi A es.length cap hnc x hsrc, ?_, ?_⟩
    · simp only [List.length_nil, Nat.add_zero, set_same hk]; exact hF
    · simp only [List.length_nil, Nat.add_zero, set_same hk, List.append_nil]; exact hu
  have hm0 : 0 < ds.length := List.length_pos_iff.2 hd0
  have hul : us.length = es.length * i.size := by rw [hR.1, flat_len hsz]
  have hkl := (List.getElem?_eq_some_iff.1 hk).1
  have hall : ∀ d ∈ es ++ ds, d.length = i.size := fun d hd => (List.mem_append.1 hd).elim (hsz d) (hds d)
  -- the tables behind it
  have hrw : ∀ j n, (st.rw.set k (es.length + ds.length))[j]? = some n → (j ≠ k ∧ st.rw[j]? = some n) ∨ (j = k ∧ n = es.length + ds.length) := by
    intro j n h
    by_cases hj : k = j
    · subst hj; rw [List.getElem?_set_self hkl] at h; simp at h; exact .inr ⟨rfl, h.symm⟩
    · rw [List.getElem?_set_ne hj] at h; exact .inl ⟨fun e => hj e.symm, h⟩
  have hrw' : ∀ j n, j ≠ k → st.rw[j]? = some n → (st.rw.set k (es.length + ds.length))[j]? = some n := fun j n hj h => by
    rw [List.getElem?_set_ne (fun e => hj e.symm)]; exact h
  have hRk := hF.rn
  have hkR : k < R.length := by rw [hRk]; exact hkl
  -- a row of its own, in a new block
  have grow : cap < es.length + ds.length → ∃ u' w' R', (Builtin.append_ #[t, tx] ty #[.slice A es.length cap, x]).run P w = .ok u' w' ∧ FI nt w0 G0 D Dp G R' ⟨st.s, st.bx, st.rw.set k (es.length + ds.length)⟩ a w' ∧ Rel (fenv w0 D Dp w' G R' (st.rw.set k (es.length + ds.length))) (.sl i.size (es ++ ds) (.id k)) u' := by
    intro hgr
    have hold : (Builtin.firstCells i.size es.length (.slice A es.length cap)).run P w.drew = .ok us.toArray w.drew := by
      cases A with
      | none =>
        have := hA rfl
        have hn : us = [] := List.eq_nil_of_length_eq_zero (by rw [hul, show es.length = 0 by omega, Nat.zero_mul])
        subst hn
        exact run_firstCells_none w.drew i.size _ _ _
      | some ad =>
        refine run_firstCells_some w.drew i.size es.length ad es.length cap us hul fun j y hy => ?_
        obtain ⟨b, o, e, _, hc⟩ := hm (by rintro rfl; simp at hy)
        simp only [Option.some.injEq] at e
        subst e
        rw [addr_add]; exact hc j y hy
    have hrun := run_append_grow_src (P := P) w t tx ty e i z ht hi hz A es.length cap us hold x ds.length news hsrc hgr (by omega) (growslice_fits (by omega) hby)
    have hge := grownCap_ge w (es.length + ds.length) cap e
    have hcl := grownCap_le_maxLen w (es.length + ds.length) cap e (by simp only [maxLen]; omega)
    generalize grownCap w (es.length + ds.length) cap e = cap' at *
    generalize hC : (us ++ news).toArray ++ Builtin.zeroCells z.cells (cap' - (es.length + ds.length)) = C at *
    have hCs : C.size = cap' * i.size := by
      rw [← hC, Array.size_append, List.size_toArray, List.length_append, hul, hsrc.newsLen, size_zeroCells, hzs, ← Nat.add_mul, ← Nat.add_mul]
      congr 1; omega
    have hCt : C.toList.take ((es.length + ds.length) * i.size) = us ++ news := by
      rw [← hC, Array.toList_append]
      exact List.take_left' (by simp [hul, hsrc.newsLen, Nat.add_mul])
    have hCj : ∀ (j : Nat) y, (us ++ news)[j]? = some y → C[j]? = some y := fun j y h => by
      rw [← hCt, List.getElem?_take] at h
      split at h
      · simpa using h
      · cases h
    have hb : Below w.heap.size w (w.drew.alloc (.cells C e)) := ((Below.refl _ _).drew).alloc (Nat.le_refl _) _
    have hws : (w.drew.alloc (.cells C e)).heap.size = w.heap.size + 1 := by show (w.heap.push _).size = _; simp
    let r' : Rec := ⟨w.heap.size, e, i.size, cap'⟩
    have hR' : ∀ (j : Nat) r, (R.set k (some r'))[j]? = some (some r) → (j ≠ k ∧ R[j]? = some (some r)) ∨ (j = k ∧ r = r') := by
      intro j r h
      by_cases hj : k = j
      · subst hj; rw [List.getElem?_set_self hkR] at h; simp at h; exact .inr ⟨rfl, h.symm⟩
      · rw [List.getElem?_set_ne hj] at h; exact .inl ⟨fun e => hj e.symm, h⟩
    have key : ∀ D b e', inDom w0 w D G R st.rw b e' → inDom w0 (w.drew.alloc (.cells C e)) D G (R.set k (some r')) (st.rw.set k (es.length + ds.length)) b e' := by
      intro D b e' h
      refine ⟨by rw [hws]; have := h.1; omega, h.2.1, h.2.2.1, fun j r n hj hn hg => ?_⟩
      rcases hR' j r hj with ⟨h1, h2⟩ | ⟨rfl, rfl⟩
      · rcases hrw j n hn with ⟨_, h3⟩ | ⟨h3, _⟩
        · exact h.2.2.2 j r n h2 h3 hg
        · exact absurd h3 h1
      · have := h.1; simp only [r'] at hg; omega
    have hle : (fenv w0 D Dp w G R st.rw).Le (fenv w0 D Dp (w.drew.alloc (.cells C e)) G (R.set k (some r')) (st.rw.set k (es.length + ds.length))) := by
      refine ⟨fun b e' h => key D b e' h, fun b e' h => key (fun b e => D b e ∨ Dp b e) b e' h, fun b e' o h _ => hb.cell (p := ⟨b, o, none⟩) (by rcases h with h | h <;> exact h.1), hb.size, fun _ _ h => h, ?_, fun _ g cs t _ h => ⟨cs, cells_below hb h, rfl⟩⟩
      rintro j s n A' c ⟨m, r, h1, h2, h3, h4⟩
      by_cases hj : j = k
      · subst hj
        rw [hk] at h1; simp at h1; subst h1
        exact ⟨_, some r', List.getElem?_set_self hkl, List.getElem?_set_self hkR, by omega, fun h => by omega⟩
      · exact ⟨m, r, hrw' j m hj h1, by rw [List.getElem?_set_ne (fun e => hj e.symm)]; exact h2, h3, h4⟩
    have hgl : ∀ g ∈ G, (w.drew.alloc (.cells C e)).heap[g]? = w.heap[g]? := fun g hg => hb.block g (hF.glt g hg)
    have hnew0 : w.heap.size ∉ G := fun h => by have := hF.glt _ h; omega
    refine ⟨_, _, R.set k (some r'), hrun, hF.rowstep hle (hF.hB.grow hb) hgl (by simp [hRk]) ?_ ?_, ?_⟩
    · intro j r n hj hn
      rcases hR' j r hj with ⟨h1, h2⟩ | ⟨rfl, rfl⟩
      · rcases hrw j n hn with ⟨_, h3⟩ | ⟨h3, _⟩
        · obtain ⟨k1, k2, xs, k3⟩ := hF.rws j r n h2 h3
          exact ⟨k1, k2, xs, ownsRow_below k3 hb (Nat.le_refl _)⟩
        · exact absurd h3 h1
      · rcases hrw j n hn with ⟨h3, _⟩ | ⟨_, rfl⟩
        · exact absurd rfl h3
        · exact ⟨hF.hB.size, hnew0, us ++ news, by simp [hul, hsrc.newsLen, Nat.add_mul, r'], .inr ⟨w.heap.size, cap', C, rfl, hF.hB.size, heap_alloc_new w.drew _, hge, hcl, hCs, hCt⟩⟩
    · intro j j' r r2 hj hj' hg
      have hlt : ∀ (j : Nat) (r : Rec), R[j]? = some (some r) → r.g < w.heap.size := fun j r h => by
        have hjl := (List.getElem?_eq_some_iff.1 h).1
        rw [hRk] at hjl
        exact hF.rlt j r _ h (List.getElem?_eq_getElem hjl)
      rcases hR' j r hj with ⟨h1, h2⟩ | ⟨rfl, rfl⟩
      · rcases hR' j' r2 hj' with ⟨h3, h4⟩ | ⟨rfl, rfl⟩
        · exact hF.rinj j j' r r2 h2 h4 hg
        · have := hlt j r h2; simp only [r'] at hg; omega
      · rcases hR' j' r2 hj' with ⟨h3, h4⟩ | ⟨rfl, _⟩
        · have := hlt j' r2 h4; simp only [r'] at hg; omega
        · rfl
    · have hR2 := (hR.mono hle.sh).app (hnew.mono hle.sh)
      rw [← List.flatten_append] at hR2
      rw [show Value.slice (some ⟨w.heap.size, 0, none⟩) (es.length + ds.length) cap' = .slice (some ⟨w.heap.size, 0, none⟩) (es ++ ds).length cap' by rw [List.length_append]]
      refine .sl _ _ _ _ _ _ (us ++ news) hall hR2.1 hR2.2 (fun y hy => (List.mem_append.1 hy).elim (h1 y) (hsrc.one y)) (by rw [List.length_append]; exact hge) hcl (fun h => by cases h) (fun ad h => ?_) (fun hne => ?_) ?_
      · simp at h; subst h; exact fun _ => ⟨rfl, by show w.heap.size < (w.drew.alloc _).heap.size; rw [hws]; omega⟩
      · refine ⟨w.heap.size, 0, rfl, ⟨by rw [hws]; omega, fun h => by have := hF.hB.size; omega, hnew0, fun j r n hj hn hg => ?_⟩, fun j y hy => ?_⟩
        · rcases hR' j r hj with ⟨h1, h2⟩ | ⟨rfl, rfl⟩
          · have hjl := (List.getElem?_eq_some_iff.1 h2).1
            rw [hRk] at hjl
            have := hF.rlt j r _ h2 (List.getElem?_eq_getElem hjl); omega
          · rcases hrw j n hn with ⟨h3, _⟩ | ⟨_, rfl⟩
            · exact absurd rfl h3
            · simp [hul, hsrc.newsLen, Nat.add_mul, r']
        · show (w.drew.alloc _).cell? ⟨w.drew.heap.size, 0 + j, none⟩ = _
          rw [cell_of_row _ _ _ C e (0, 0) (heap_alloc_new w.drew _), Nat.zero_add]
          exact hCj j y hy
      · exact ⟨_, some r', List.getElem?_set_self hkl, List.getElem?_set_self hkR, by rw [List.length_append]; exact Nat.le_refl _, fun _ => ⟨rfl, rfl, rfl⟩⟩
  obtain ⟨m, r, hm1, hm2, _, hm4⟩ := hown
  rw [hk] at hm1
  simp at hm1; subst hm1
  have hm4 := hm4 rfl
  cases r with
  | none => exact grow (by simp only at hm4; omega)
  | some r =>
    simp only at hm4
    obtain ⟨rfl, rfl, hrsz⟩ := hm4
    by_cases hroom : es.length + ds.length ≤ r.cap
    · obtain ⟨hg0, hgG, xs, hx, hrest⟩ := hF.rws k r _ hm2 hk
      rcases hrest with ⟨he, _⟩ | ⟨g, cap2, cur, he, _, hh, _, _, hcur, htake⟩
      · cases he
      simp only [Value.slice.injEq, Option.some.injEq, Addr.mk.injEq, and_true, true_and] at he
      obtain ⟨rfl, rfl⟩ := he
      rw [hrsz] at hcur htake hx
      have hmul : (es.length + ds.length) * i.size ≤ r.cap * i.size := Nat.mul_le_mul_right _ hroom
      have hnl := hsrc.newsLen
      rw [Nat.add_mul] at hmul
      have hst := run_storeCells_at (P := P) r.g (es.length * i.size) r.e news 0 cur w hh (by omega) hsrc.one
      rw [Nat.add_zero] at hst
      generalize hC : (cur.toList.take (es.length * i.size) ++ news ++ cur.toList.drop (es.length * i.size + news.length)).toArray = C at *
      have hrun : (Builtin.append_ #[t, tx] ty #[.slice (some ⟨r.g, 0, none⟩) es.length r.cap, x]).run P w = .ok (.slice (some ⟨r.g, 0, none⟩) (es.length + ds.length) r.cap) (w.setRow r.g C) := by
        have hst' : (storeCells ((⟨r.g, 0, none⟩ : Addr).add (es.length * i.size)) news).run P w = .ok () (w.setRow r.g C) := by rw [addr_add, Nat.zero_add]; exact hst
        rcases hsrc.kind with ⟨e', hk'⟩ | hk' <;> simp [Builtin.append_, run_underlying ht, run_underlying hk', sizeOf, typeInfo, hi, hsrc.len, hroom, hsrc.cells, hst']
      have hxl : xs.length = es.length * i.size := hx
      have hCs : C.size = r.cap * i.size := by
        rw [← hC]; simp; omega
      have htl : (cur.toList.take (es.length * i.size)).length = es.length * i.size := by simp; omega
      have hCt : C.toList.take ((es.length + ds.length) * i.size) = xs ++ news := by
        rw [← hC, ← htake]
        exact List.take_left' (by rw [List.length_append, htl, hnl, Nat.add_mul])
      have hpre : ∀ j, j < es.length * i.size → C[j]? = cur[j]? := fun j hj => by
        rw [← hC, List.getElem?_toArray, List.append_assoc, List.getElem?_append_left (by omega), List.getElem?_take, if_pos hj]; simp
      have hpost : ∀ j y, news[j]? = some y → C[es.length * i.size + j]? = some y := fun j y hy => by
        have hj := (List.getElem?_eq_some_iff.1 hy).1
        rw [← hC, List.getElem?_toArray, List.append_assoc, List.getElem?_append_right (by omega), htl, show es.length * i.size + j - es.length * i.size = j by omega, List.getElem?_append_left hj]; exact hy
      have key : ∀ D b e', inDom w0 w D G R st.rw b e' → inDom w0 (w.setRow r.g C) D G R (st.rw.set k (es.length + ds.length)) b e' := by
        intro D b e' h
        refine ⟨by rw [setRow_size]; exact h.1, h.2.1, h.2.2.1, fun j r2 n hj hn hg => ?_⟩
        rcases hrw j n hn with ⟨_, h3⟩ | ⟨rfl, rfl⟩
        · exact h.2.2.2 j r2 n hj h3 hg
        · have := h.2.2.2 j r2 _ hj hk hg
          exact Nat.le_trans this (Nat.mul_le_mul_right _ (by omega))
      have hle : (fenv w0 D Dp w G R st.rw).Le (fenv w0 D Dp (w.setRow r.g C) G R (st.rw.set k (es.length + ds.length))) := by
        refine ⟨fun b e' h => key D b e' h, fun b e' h => key (fun b e => D b e ∨ Dp b e) b e' h, fun b e' o h ho => ?_, by show w.heap.size ≤ (w.setRow _ _).heap.size; rw [setRow_size]; exact Nat.le_refl _, fun _ _ h => h, ?_, fun i g cs t hgi h => ⟨cs, by
          show (w.setRow r.g C).heap[g]? = _
          rw [setRow_other w r.g g _ (fun e => hgG (e ▸ List.mem_of_getElem? hgi))]; exact h, rfl⟩⟩
        · by_cases hbg : b = r.g
          · subst hbg
            have hlim : e' ≤ es.length * r.sz := by
              rcases h with h | h <;> exact h.2.2.2 k r _ hm2 hk rfl
            rw [hrsz] at hlim
            show (w.setRow r.g C).cell? _ = w.cell? _
            rw [cell_setRow_same w r.g o cur C r.e (0, 0) hh, hpre o (by omega), cell_of_row w r.g o cur r.e (0, 0) hh]
          · exact cell_setRow_other w r.g C ⟨b, o, none⟩ hbg
        · rintro j s n A' c ⟨m, r2, h1, h2, h3, h4⟩
          by_cases hj : j = k
          · subst hj
            rw [hk] at h1; simp at h1; subst h1
            exact ⟨_, r2, List.getElem?_set_self hkl, h2, by omega, fun h => by omega⟩
          · exact ⟨m, r2, hrw' j m hj h1, h2, h3, h4⟩
      refine ⟨_, _, R, hrun, hF.rowstep hle (hF.hB.turn hg0) (fun g hg => setRow_other w r.g g _ (fun e => hgG (e ▸ hg))) (by simp [hRk]) ?_ hF.rinj, ?_⟩
      · intro j r2 n hj hn
        rcases hrw j n hn with ⟨h2, h3⟩ | ⟨rfl, rfl⟩
        · obtain ⟨k1, k2, ys, k3⟩ := hF.rws j r2 n hj h3
          refine ⟨k1, k2, ys, k3.1, ?_⟩
          rcases k3.2 with h | ⟨g', cap', cur', e1, e2, e3, rest⟩
          · exact .inl h
          · refine .inr ⟨g', cap', cur', e1, e2, ?_, rest⟩
            simp only [Value.slice.injEq, Option.some.injEq, Addr.mk.injEq, and_true] at e1
            rw [setRow_other w r.g g' _ (fun e => h2 (hF.rinj j k r2 r hj hm2 (by rw [e1.1, e])))]
            exact e3
        · rw [hm2] at hj
          simp at hj; subst hj
          exact ⟨hg0, hgG, xs ++ news, by rw [List.length_append, hxl, hnl, hrsz, Nat.add_mul], .inr ⟨r.g, r.cap, C, rfl, hg0, setRow_heap w r.g cur _ r.e _ hh, hroom, hcm, by rw [hrsz]; exact hCs, by rw [hrsz]; exact hCt⟩⟩
      · have hR2 := (hR.mono hle.sh).app (hnew.mono hle.sh)
        rw [← List.flatten_append] at hR2
        rw [show Value.slice (some ⟨r.g, 0, none⟩) (es.length + ds.length) r.cap = .slice (some ⟨r.g, 0, none⟩) (es ++ ds).length r.cap by rw [List.length_append]]
        refine .sl _ _ _ _ _ _ (us ++ news) hall hR2.1 hR2.2 (fun y hy => (List.mem_append.1 hy).elim (h1 y) (hsrc.one y)) (by rw [List.length_append]; exact hroom) hcm (fun h => by cases h) (fun ad h => ?_) (fun hne => ?_) ?_
        · simp at h; subst h; exact fun _ => ⟨rfl, by show r.g < (w.setRow _ _).heap.size; rw [setRow_size]; exact (Array.getElem?_eq_some_iff.1 hh).1⟩
        · refine ⟨r.g, 0, rfl, ⟨by rw [setRow_size]; exact (Array.getElem?_eq_some_iff.1 hh).1, fun h => by omega, hgG, fun j r2 n hj hn hg => ?_⟩, fun j y hy => ?_⟩
          · have := hF.rinj j k r2 r hj hm2 hg
            subst this
            rw [hm2] at hj
            simp at hj; subst hj
            rcases hrw j n hn with ⟨h3, _⟩ | ⟨_, rfl⟩
            · exact absurd rfl h3
            · rw [hrsz, List.length_append, hul, hnl, Nat.add_mul]; omega
          · show (w.setRow r.g C).cell? _ = _
            rw [cell_setRow_same w r.g _ cur C r.e (0, 0) hh, Nat.zero_add]
            by_cases hj : j < us.length
            · rw [List.getElem?_append_left hj] at hy
              rw [hpre j (by omega)]
              have hne : us ≠ [] := by rintro rfl; simp at hj
              obtain ⟨b, off, e1, _, hc⟩ := hm hne
              simp only [Option.some.injEq, Addr.mk.injEq, and_true] at e1
              obtain ⟨rfl, rfl⟩ := e1
              have := hc j y hy
              rw [Nat.zero_add] at this
              rw [← cell_of_row w r.g j cur r.e (0, 0) hh]; exact this
            · rw [List.getElem?_append_right (by omega)] at hy
              have := hpost _ y hy
              rwa [hul, show es.length * i.size + (j - es.length * i.size) = j by omega] at this
        · exact ⟨_, some r, List.getElem?_set_self hkl, hm2, by rw [List.length_append]; exact Nat.le_refl _, fun _ => ⟨rfl, rfl, hrsz⟩⟩
    · exact grow (by omega)
end
end Go.Proofs.Ytdkancgcefklfaa
