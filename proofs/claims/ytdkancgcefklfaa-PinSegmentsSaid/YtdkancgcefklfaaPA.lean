/-
  How each operation of a program becomes one over plain views; and that it is right to do so.
-/
import Derived.Test.YtdkancgcefklfaaP9
import Derived.Laws.MakeOwn
namespace Go.Proofs.Ytdkancgcefklfaa
open Go.RowKit
section
variable {P : Program} {nt : Nat} {w0 : World} {G0 : List Nat} {D Dp : Nat → Nat → Prop} {G : List Nat} {R : List (Option Rec)} {st : St} {a : Act} {w : World} {o : Oper}
theorem FI.adopt (hF : FI nt w0 G0 D Dp G R st a w) (n : Nat) : FI nt w0 G0 D Dp G (R ++ [none]) ⟨st.s, st.bx, st.rw ++ [n]⟩ a w ∧ (fenv w0 D Dp w G R st.rw).Le (fenv w0 D Dp w G (R ++ [none]) (st.rw ++ [n])) := by
  have hR : ∀ (j : Nat) r, (R ++ [none])[j]? = some (some r) → R[j]? = some (some r) := fun j r h => by
    by_cases hj : j < R.length
    · rwa [List.getElem?_append_left hj] at h
    · rw [List.getElem?_append_right (by omega)] at h
      have := (List.getElem?_eq_some_iff.1 h).1
      simp at this
      rw [show j - R.length = 0 by omega] at h
      simp at h
  have hrw : ∀ (j : Nat) m, j < R.length → (st.rw ++ [n])[j]? = some m → st.rw[j]? = some m := fun j m hj h => by
    rwa [List.getElem?_append_left (by rw [← hF.rn]; exact hj)] at h
  have key : ∀ D b e', inDom w0 w D G R st.rw b e' → inDom w0 w D G (R ++ [none]) (st.rw ++ [n]) b e' := fun D b e' h =>
    ⟨h.1, h.2.1, h.2.2.1, fun j r m hj hm hg => h.2.2.2 j r m (hR j r hj) (hrw j m (List.getElem?_eq_some_iff.1 (hR j r hj)).1 hm) hg⟩
  have hle : (fenv w0 D Dp w G R st.rw).Le (fenv w0 D Dp w G (R ++ [none]) (st.rw ++ [n])) := by
    refine ⟨fun b e' h => key D b e' h, fun b e' h => key (fun b e => D b e ∨ Dp b e) b e' h, fun _ _ _ _ _ => rfl, Nat.le_refl _, fun _ _ h => h, ?_, fun _ g cs t _ h => ⟨cs, h, rfl⟩⟩
    rintro j s k A c ⟨m, r, h1, h2, h3, h4⟩
    exact ⟨m, r, by rw [List.getElem?_append_left (List.getElem?_eq_some_iff.1 h1).1]; exact h1, by rw [List.getElem?_append_left (List.getElem?_eq_some_iff.1 h2).1]; exact h2, h3, h4⟩
  refine ⟨hF.rowstep hle hF.hB (fun _ _ => rfl) (by simp [hF.rn]) (fun j r m hj hm => ?_) (fun j k r r' hj hk hg => hF.rinj j k r r' (hR j r hj) (hR k r' hk) hg), hle⟩
  exact hF.rws j r m (hR j r hj) (hrw j m (List.getElem?_eq_some_iff.1 (hR j r hj)).1 hm)
theorem adopt_rel {E E' : Env} (hle : E.Le E') {s1 sz : Nat} {es : List (List PV)} {u : Value} {k : Nat} (h : Rel E (.sl s1 es .full) u) (hs : s1 = sz ∨ es = []) (hown : ∀ A c, c = es.length → E'.own k sz es.length A c) : Rel E' (.sl sz es (.id k)) u := by
  obtain ⟨A, cap, us, rfl, hR, h1, hnc, hcm, hA, hA0, hm, hok, hsz⟩ := (h.mono hle).inv_sl
  refine .sl _ _ _ _ _ _ us (fun e he => ?_) hR.1 hR.2 h1 hnc hcm hA hA0 hm (hown A cap hok)
  rcases hs with rfl | rfl
  · exact hsz e he
  · cases he
theorem own_adopt (hn : R.length = st.rw.length) (n sz : Nat) (A : Option Addr) (c : Nat) (hc : c = n) : (fenv w0 D Dp w G (R ++ [none]) (st.rw ++ [n])).own st.rw.length sz n A c :=
  ⟨n, none, by simp, by rw [← hn]; simp, Nat.le_refl _, fun _ => hc⟩

/-- append into a new block that is told of as a box -/
theorem FI.growBox (_hF : FI nt w0 G0 D Dp G R st a w) {t tx ty e : TypeId} {i : TypeInfo} {z : Value} (ht : P.underlying t = some (.slice e)) (hi : P.info? e = some i) (hz : i.zero = some z) (hzs : z.cells.size = i.size)
    {A : Option Addr} {n m cap : Nat} {x : Value} {olds news : List Value} {ocs ncs : List PV} (hold : (Builtin.firstCells i.size n (.slice A n cap)).run P w.drew = .ok olds.toArray w.drew) (hol : olds.length = n * i.size) (hR : RelL (fenv w0 D Dp w G R st.rw) ocs olds)
    (h1 : ∀ y ∈ olds, y.oneCell' = true) (hsrc : Src P i.size tx x m news w) (hnew : RelL (fenv w0 D Dp w G R st.rw) ncs news) (hgr : cap < n + m) (hby : (n + m) * i.bytes ≤ 140737488355328) (h63 : n + m ≤ 9223372036854775807) :
    ∃ u' w' e' vs, (Builtin.append_ #[t, tx] ty #[.slice A n cap, x]).run P w = .ok u' w' ∧ w'.heap = w.heap.push (.cells (olds ++ news ++ vs).toArray e' (0, 0)) ∧ Below w.heap.size w w' ∧ RelL (fenv w0 D Dp w G R st.rw) (ocs ++ ncs) (olds ++ news) ∧ (∀ y ∈ olds ++ news, y.oneCell' = true) ∧
      ∃ c, u' = .slice (some ⟨w.heap.size, 0, none⟩) (n + m) c ∧ sbOk w' w.heap.size i.size 0 (n + m) c none := by
  have hrun := run_append_grow_src (P := P) w t tx ty e i z ht hi hz A n cap olds hold x m news hsrc hgr (by omega) (growslice_fits (by omega) hby)
  have hge := grownCap_ge w (n + m) cap e
  have hcl := grownCap_le_maxLen w (n + m) cap e (by simp only [maxLen]; omega)
  generalize grownCap w (n + m) cap e = cap' at *
  have hC : (olds ++ news).toArray ++ Builtin.zeroCells z.cells (cap' - (n + m)) = (olds ++ news ++ (Builtin.zeroCells z.cells (cap' - (n + m))).toList).toArray := by
    apply Array.ext'; simp
  rw [hC] at hrun
  refine ⟨_, _, e, _, hrun, rfl, ((Below.refl _ _).drew).alloc (Nat.le_refl _) _, hR.app hnew, fun y hy => (List.mem_append.1 hy).elim (h1 y) (hsrc.one y), cap', rfl, fun k h => by (cases h), hge, hcl, _, e, heap_alloc_new w.drew _, ?_⟩
  have h2 : (olds ++ news).length = (n + m) * i.size := by rw [List.length_append, hol, hsrc.newsLen, Nat.add_mul]
  rw [List.size_toArray, List.length_append, h2, Array.length_toList, size_zeroCells, hzs, ← Nat.add_mul, show n + m + (cap' - (n + m)) = cap' by omega]
  omega
/-! ### a box gives way to another -/
theorem FI.replBox (hF : FI nt w0 G0 D Dp G R st a w) {b g g' : Nat} (hg : G[b]? = some g) (hbG : G0.length ≤ b) {w' : World} (hos : w'.os = w.os) (htp : w'.tape = w.tape) (hou : w'.output = w.output) (hsz : w.heap.size ≤ w'.heap.size)
    (hk : ∀ k, k < w.heap.size → k ≠ g → w'.heap[k]? = w.heap[k]?) (hg' : g' = g ∨ g' = w.heap.size) {us vs : List Value} {t : TypeId} (hh : w'.heap[g']? = some (.cells (us ++ vs).toArray t (0, 0))) {ocs ncs : List PV} {os ns : List Value} (hu : us = os ++ ns)
    (hR : RelL (fenv w0 D Dp w G R st.rw) ocs os) (hN : RelL (fenv w0 D Dp w G R st.rw).sh ncs ns) (h1 : ∀ x ∈ us, x.oneCell' = true) :
    FI nt w0 G0 D Dp (G.set b g') R ⟨st.s.forg [b], (st.bx.map fun cs => cs.map (forgC [b])).set b (ocs.map (forgC [b]) ++ ncs), st.rw⟩ a w' := by
  have hbl := (List.getElem?_eq_some_iff.1 hg).1
  have hgl : g < w.heap.size := hF.glt g (List.mem_of_getElem? hg)
  have hgG0 : g ∉ G0 := fun hm => by
    obtain ⟨j, hj⟩ := List.getElem?_of_mem hm
    have hjl := (List.getElem?_eq_some_iff.1 hj).1
    have h2 : G[j]? = some g := by
      have h3 : (G.take G0.length)[j]? = some g := by rw [hF.g0]; exact hj
      rw [List.getElem?_take, if_pos hjl] at h3
      exact h3
    have := hF.gn _ _ _ h2 hg
    omega
  have hset : ∀ j g1, (G.set b g')[j]? = some g1 → (j = b ∧ g1 = g') ∨ (j ≠ b ∧ G[j]? = some g1) := fun j g1 h => by
    by_cases hj : b = j
    · subst hj; rw [List.getElem?_set_self hbl] at h; simp at h; exact .inl ⟨rfl, h.symm⟩
    · rw [List.getElem?_set_ne hj] at h; exact .inr ⟨fun e => hj e.symm, h⟩
  have hmem : ∀ g1, g1 ∈ G.set b g' → g1 ∈ G ∨ g1 = g' := fun g1 h => by
    rcases List.mem_or_eq_of_mem_set h with h | h
    · exact .inl h
    · exact .inr h
  have hg'l : g' < w'.heap.size := (Array.getElem?_eq_some_iff.1 hh).1
  have hother : ∀ j g1, j ≠ b → G[j]? = some g1 → g1 ≠ g ∧ g1 < w.heap.size := fun j g1 hj h => ⟨fun e => hj (hF.gn _ _ _ h (e ▸ hg)), hF.glt _ (List.mem_of_getElem? h)⟩
  have key : ∀ D b' e, inDom w0 w D G R st.rw b' e → inDom w0 w' D (G.set b g') R st.rw b' e := fun D b' e h => by
    refine ⟨Nat.lt_of_lt_of_le h.1 hsz, h.2.1, fun hm => ?_, h.2.2.2⟩
    rcases hmem _ hm with h2 | h2
    · exact h.2.2.1 h2
    · rcases hg' with h3 | h3
      · exact h.2.2.1 (h2 ▸ h3 ▸ List.mem_of_getElem? hg)
      · have := h.1; omega
  have hcell : ∀ b' o, b' < w.heap.size → b' ∉ G → w'.cell? ⟨b', o, none⟩ = w.cell? ⟨b', o, none⟩ := fun b' o h1 h2 => by
    have := hk b' h1 (fun e => h2 (e ▸ List.mem_of_getElem? hg))
    simp only [World.cell?, this]
  -- the telling without box b
  let E1 : Env := ⟨w, inDom w0 w D G R st.rw, inDom w0 w (fun b e => D b e ∨ Dp b e) G R st.rw, fun j => if j = b then none else G[j]?, ownIs R st.rw⟩
  have hE1 : ∀ {p : PV} {u : Value}, Rel (fenv w0 D Dp w G R st.rw) p u → Rel E1 (forgC [b] p) u := fun h =>
    forgC_rel (E := fenv w0 D Dp w G R st.rw) (E' := E1) (Env.Le.refl _) (fun _ _ h => h) (fun _ _ h => h) rfl (fun j g1 hj hg1 => by show (if j = b then none else G[j]?) = _; rw [if_neg (by simpa using hj)]; exact hg1) (fun _ _ _ _ _ h => h) h
  have hle : E1.Le (fenv w0 D Dp w' (G.set b g') R st.rw) := by
    refine ⟨key D, key _, fun b' e o h _ => ?_, hsz, fun j g1 h => ?_, fun _ _ _ _ _ h => h, fun j g1 cs t' h h2 => ⟨cs, ?_, rfl⟩⟩
    · have h1 : b' < w.heap.size ∧ b' ∉ G := h.elim (fun h => ⟨h.1, h.2.2.1⟩) (fun h => ⟨h.1, h.2.2.1⟩)
      exact hcell b' o h1.1 h1.2
    · have h : (if j = b then none else G[j]?) = some g1 := h
      split at h
      · cases h
      · rename_i hj
        show (G.set b g')[j]? = _
        rw [List.getElem?_set_ne (fun e => hj e.symm)]; exact h
    · have h : (if j = b then none else G[j]?) = some g1 := h
      split at h
      · cases h
      · rename_i hj
        obtain ⟨k1, k2⟩ := hother j g1 hj h
        show w'.heap[g1]? = _
        rw [hk g1 k2 k1]; exact h2
  have hV : ∀ {p : PV} {u : Value}, Rel (fenv w0 D Dp w G R st.rw) p u → Rel (fenv w0 D Dp w' (G.set b g') R st.rw) (forgC [b] p) u := fun h => (hE1 h).mono hle
  have hL : ∀ {cs : List PV} {us : List Value}, RelL (fenv w0 D Dp w G R st.rw) cs us → RelL (fenv w0 D Dp w' (G.set b g') R st.rw) (cs.map (forgC [b])) us := fun {cs us} h => by
    refine ⟨by simp [h.1], fun j p u hp hu => ?_⟩
    rw [List.getElem?_map, Option.map_eq_some_iff] at hp
    obtain ⟨q, hq, rfl⟩ := hp
    exact hV (h.2 j q u hq hu)
  have hsh : (fenv w0 D Dp w G R st.rw).sh.Le (fenv w0 D Dp w' (G.set b g') R st.rw) :=
    ⟨key D, fun b' e h => key (fun b e => D b e ∨ Dp b e) b' e ⟨h.1, fun hb => .inl (h.2.1 hb), h.2.2⟩, fun b' e o h _ => by
      have h1 : b' < w.heap.size ∧ b' ∉ G := h.elim (fun h => ⟨h.1, h.2.2.1⟩) (fun h => ⟨h.1, h.2.2.1⟩)
      exact hcell b' o h1.1 h1.2, hsz, fun _ _ h => (by cases h), fun _ _ _ _ _ h => h.elim, fun _ _ _ _ h => (by cases h)⟩
  refine ⟨?_, ?_, ?_, hF.defers, hF.size, fun i hi => ?_, ?_, hF.rn, ?_, hF.rinj⟩
  · refine ⟨hos.trans hF.hB.os, htp.trans hF.hB.tape, hou.trans hF.hB.output, Nat.le_trans hF.hB.size hsz, fun k h2 h3 => ?_, fun g1 cs t' hg1 hc => ?_⟩
    · rw [hk k (Nat.lt_of_lt_of_le h2 hF.hB.size) (fun e => ?_)]
      · exact hF.hB.block k h2 h3
      · subst e
        rcases hF.gnew _ (List.mem_of_getElem? hg) with h | h
        · omega
        · exact h3 h
    · obtain ⟨cs1, k1, k2⟩ := hF.hB.bsz g1 cs t' hg1 hc
      exact ⟨cs1, by rw [hk g1 (Array.getElem?_eq_some_iff.1 k1).1 (fun e => hgG0 (e ▸ hg1))]; exact k1, k2⟩
  · rw [List.take_set_of_le hbG]; exact hF.g0
  · intro g1 h
    rcases hmem _ h with h2 | h2
    · exact hF.gnew g1 h2
    · rcases hg' with h3 | h3
      · exact hF.gnew g1 (h2 ▸ h3 ▸ List.mem_of_getElem? hg)
      · exact .inl (by have := hF.hB.size; omega)
  · show Rel _ ((st.s.forg [b]).get (slot i)) _
    rw [forg_get]
    exact mapV_rel (fun p u h => hV h) (hF.slots i hi)
  · refine ⟨by simp [hF.bxn], ?_, ?_⟩
    · intro j g1 cs hj hc
      have hc : ((st.bx.map fun cs => cs.map (forgC [b])).set b (ocs.map (forgC [b]) ++ ncs))[j]? = some cs := hc
      rcases hset j g1 hj with ⟨rfl, rfl⟩ | ⟨h2, h3⟩
      · rw [List.getElem?_set_self (by rw [List.length_map, ← hF.bxn]; exact hbl)] at hc
        simp at hc; subst hc
        refine ⟨us, vs, t, hh, ?_, h1⟩
        rw [hu]
        exact (hL hR).app (hN.mono hsh)
      · rw [List.getElem?_set_ne (fun e => h2 e.symm), List.getElem?_map, Option.map_eq_some_iff] at hc
        obtain ⟨ds, hd, rfl⟩ := hc
        obtain ⟨us', vs', t', k1, k2, k3⟩ := hF.bxs.bx j g1 ds h3 hd
        obtain ⟨k4, k5⟩ := hother j g1 h2 h3
        exact ⟨us', vs', t', by show w'.heap[g1]? = _; rw [hk g1 k5 k4]; exact k1, hL k2, k3⟩
    · intro j k g1 hj hk1
      rcases hset j g1 hj with ⟨rfl, rfl⟩ | ⟨h2, h3⟩ <;> rcases hset k g1 hk1 with ⟨rfl, h4⟩ | ⟨h4, h5⟩
      · rfl
      · obtain ⟨k4, k5⟩ := hother k g1 h4 h5
        rcases hg' with h | h
        · exact absurd h k4
        · omega
      · obtain ⟨k4, k5⟩ := hother j g1 h2 h3
        rcases hg' with h | h
        · exact absurd (h4.trans h) k4
        · omega
      · exact hF.gn _ _ _ h3 h5
  · intro k r n hk1 hn
    obtain ⟨h2, h3, xs, h4⟩ := hF.rws k r n hk1 hn
    have hlt := hF.rlt k r n hk1 hn
    refine ⟨h2, fun hm => ?_, xs, ownsRow_same h4 (hk r.g hlt (fun e => h3 (e ▸ List.mem_of_getElem? hg)))⟩
    rcases hmem _ hm with h5 | h5
    · exact h3 h5
    · rcases hg' with h6 | h6
      · exact h3 (h5 ▸ h6 ▸ List.mem_of_getElem? hg)
      · omega

theorem wp_app {t tx e : TypeId} {i : TypeInfo} {z : Value} {s x : Operand} {p q : PO} {d n0 : Nat} (ho : o.op = .call { callee := .builtin .append, args := #[s, x], argTypes := #[t, tx] }) (hd : o.dst = some d) (hdn : d < nt) (hd5 : d < 512) (hs : cPO s = some p) (hx : cPO x = some q)
    (ht : P.underlying t = some (.slice e)) (hi : P.info? e = some i) (hz : i.zero = some z) (hzs : z.cells.size = i.size) (hsz0 : 0 < i.size) (hk : (∃ e', P.underlying tx = some (.slice e')) ∨ P.underlying tx = some .string) (hD : DomOk w0 D) (hG0 : G0.length ≤ n0) (hF : FI nt w0 G0 D Dp G R st a w)
    {st' : St} (h : ∃ ds, elems st.bx i.size (st.ev q) = some ds ∧
      ((∃ s1 es o, st.ev p = .sl s1 es o ∧ (es.length + ds.length) * i.bytes ≤ 140737488355328 ∧ es.length + ds.length ≤ 9223372036854775807 ∧
        ((o = .full ∧ (s1 = i.size ∨ es = []) ∧ st' = ⟨st.s.put (slot d) (.sl i.size (es ++ ds) (.id st.rw.length)), st.bx, st.rw ++ [es.length + ds.length]⟩) ∨
         (∃ k, o = .id k ∧ s1 = i.size ∧ st.rw[k]? = some es.length ∧ st' = ⟨st.s.put (slot d) (.sl i.size (es ++ ds) (.id k)), st.bx, st.rw.set k (es.length + ds.length)⟩) ∨
         (o = .full ∧ (s1 = i.size ∨ es = []) ∧ ds ≠ [] ∧ st' = ⟨st.s.put (slot d) (.sb st.bx.length i.size 0 (es.length + ds.length) none), st.bx ++ [(es ++ ds).flatten], st.rw⟩))) ∨
       (∃ b off n c old, st.ev p = .sb b i.size off n c ∧ st.bx[b]? = some old ∧ (n + ds.length) * i.bytes ≤ 140737488355328 ∧ n + ds.length ≤ 9223372036854775807 ∧
        ((∃ k, c = some k ∧ n + ds.length ≤ k ∧ off + (n + ds.length) * i.size ≤ old.length ∧ st' = ⟨st.s.put (slot d) (.sb b i.size off (n + ds.length) c), st.bx.set b (setAt old (off + n * i.size) ds.flatten), st.rw⟩) ∨
         (∃ k, c = some k ∧ k < n + ds.length ∧ off + n * i.size ≤ old.length ∧ st' = ⟨st.s.put (slot d) (.sb st.bx.length i.size 0 (n + ds.length) none), st.bx ++ [(old.drop off).take (n * i.size) ++ ds.flatten], st.rw⟩) ∨
         (n0 ≤ b ∧ off = 0 ∧ old.length = n * i.size ∧ st' = ⟨(st.s.forg [b]).put (slot d) (.sb b i.size 0 (n + ds.length) none), (st.bx.map fun cs => cs.map (forgC [b])).set b (old.map (forgC [b]) ++ ds.flatten), st.rw⟩)))))
    {K : Act → World → Prop} {Q : Exit → Act → World → Prop} (hK : ∀ a' w', FInv nt w0 G0 D Dp st' a' w' → K a' w') : o.wp P a w K Q := by
  obtain ⟨ds, hel, h⟩ := h
  have r1 := cPO_rel hs hF
  obtain ⟨news, hsrc, hnew, hds⟩ := src_elems hF hk (cPO_rel hx hF) hel
  have hnewF := hnew.mono (fenv_sh_le (w0 := w0) (D := D) (Dp := Dp) (G := G) (R := R) (w := w) (rw := st.rw))
  have done : ∀ {u' : Value} {w' : World}, (Builtin.append_ #[t, tx] o.type #[a.eval s, a.eval x]).run P w = .ok u' w' → FInv nt w0 G0 D Dp st' (a.put (some d) u') w' → o.wp P a w K Q := by
    intro u' w' hr hF'
    have hrun : (execOp a.eval o).run P w = .ok (.value u') w' := by
      simp only [execOp, ho, resolve, invoke, builtin, Sem.run_bind, Sem.run_pure, Result.andThen_ok, List.map_toArray, List.map_cons, List.map_nil, hr]
    unfold Oper.wp
    rw [hrun, Oper.upon_value, hd]
    exact hK _ _ hF'
  rcases h with ⟨s1, es, ow, h1, h3, h4, h5⟩ | ⟨b, off, n, c, old, h1, h2, h3, h4, h5⟩
  · rw [h1] at r1
    -- from a row that is known
    have fin : ∀ {R' : List (Option Rec)} {rw1 : List Nat} {k : Nat}, FI nt w0 G0 D Dp G R' ⟨st.s, st.bx, rw1⟩ a w → Rel (fenv w0 D Dp w G R' rw1) (.sl i.size es (.id k)) (a.eval s) → rw1[k]? = some es.length →
        RelL (fenv w0 D Dp w G R' rw1).sh ds.flatten news → st' = ⟨st.s.put (slot d) (.sl i.size (es ++ ds) (.id k)), st.bx, rw1.set k (es.length + ds.length)⟩ → o.wp P a w K Q := by
      intro R' rw1 k hF' hu hk' hnew' he
      subst he
      obtain ⟨u', w', R2, hr, hF2, hu2⟩ := FI.append (st := ⟨st.s, st.bx, rw1⟩) (t := t) (tx := tx) (ty := o.type) hD hF' ht hi hz hzs hsz0 hu hk' hsrc hnew' hds h3 h4
      exact done hr ⟨G, R2, hF2.put hdn hd5 hu2⟩
    rcases h5 with ⟨rfl, hs1, he⟩ | ⟨k, rfl, hs1, hk', he⟩ | ⟨rfl, hs1, hne, he⟩
    · obtain ⟨hF', hle⟩ := hF.adopt es.length
      refine fin (k := st.rw.length) hF' (adopt_rel hle r1 hs1 (fun A c hc => own_adopt hF.rn _ _ A c hc)) (by simp) (hnew.mono hle.sh) ?_
      rw [he]
      simp
    · subst hs1
      exact fin hF r1 hk' hnew he
    · obtain ⟨A, cap, us, hu, hR, h1c, hnc, hcm, hA, hA0, hm, hok, hsz⟩ := r1.inv_sl
      have hok : cap = es.length := hok
      have hsz' : ∀ e ∈ es, e.length = i.size := fun e he => by
        rcases hs1 with rfl | rfl
        · exact hsz e he
        · cases he
      have hul : us.length = es.length * i.size := by rw [hR.1, flat_len hsz']
      have hold : (Builtin.firstCells i.size es.length (.slice A es.length cap)).run P w.drew = .ok us.toArray w.drew := by
        cases A with
        | none =>
          have := hA rfl
          have hn : us = [] := List.eq_nil_of_length_eq_zero (by rw [hul, show es.length = 0 by omega, Nat.zero_mul])
          subst hn
          exact run_firstCells_none w.drew i.size _ _ _
        | some ad =>
          refine run_firstCells_some w.drew i.size es.length ad es.length cap us hul fun j y hy => ?_
          obtain ⟨b, o, e, _, hc⟩ := hm (by rintro rfl; simp at hy)
          simp only [Option.some.injEq] at e
          subst e
          rw [addr_add]; exact hc j y hy
      have hdl := List.length_pos_iff.2 hne
      obtain ⟨u', w', e', vs, hr, hw, hb, hR2, h1c2, c, rfl, hsb⟩ := hF.growBox (t := t) (ty := o.type) ht hi hz hzs hold hul (hR.mono fenv_sh_le) h1c hsrc hnewF (by omega) h3 h4
      obtain ⟨hF2, _⟩ := hF.newBoxAt hw hb hR2 h1c2
      rw [← List.flatten_append] at hF2
      subst he
      rw [hu] at done
      refine done hr ⟨_, R, hF2.put hdn hd5 (.sb _ _ _ _ _ _ _ c (by show (G ++ [w.heap.size])[st.bx.length]? = _; rw [← hF.bxn]; simp) hsb)⟩
  · rw [h1] at r1
    obtain ⟨g, cc, hu, hg, k1, k2, k3, cs, ty, k4, k5⟩ := r1.inv_sb
    obtain ⟨us, ex, ty2, hh, hR, h1c⟩ := hF.bxs.bx b g old hg h2
    have hh : w.heap[g]? = some (.cells (us ++ ex).toArray ty2 (0, 0)) := hh
    have k4 : w.heap[g]? = some (.cells cs ty (0, 0)) := k4
    have hcs : cs = (us ++ ex).toArray ∧ ty = ty2 := by
      rw [hh] at k4
      simp only [Option.some.injEq, Obj.cells.injEq, and_true] at k4
      exact ⟨k4.1.symm, k4.2.symm⟩
    obtain ⟨rfl, rfl⟩ := hcs
    rw [List.size_toArray, List.length_append] at k5
    have hnl := hsrc.newsLen
    rw [hu] at done
    -- in place
    have inpl : n + ds.length ≤ cc → ∀ C, C = setAtV (us ++ ex) (off + n * i.size) news → (Builtin.append_ #[t, tx] o.type #[.slice (some ⟨g, off, none⟩) n cc, a.eval x]).run P w = .ok (.slice (some ⟨g, off, none⟩) (n + ds.length) cc) (w.setRow g C.toArray) := by
      rintro hroom C rfl
      have hmul : (n + ds.length) * i.size ≤ cc * i.size := Nat.mul_le_mul_right _ hroom
      rw [Nat.add_mul] at hmul
      have hst := run_storeCells_at (P := P) g (off + n * i.size) ty news 0 (us ++ ex).toArray w hh (by simp; omega) hsrc.one
      rw [Nat.add_zero] at hst
      have hst' : (storeCells ((⟨g, off, none⟩ : Addr).add (n * i.size)) news).run P w = .ok () (w.setRow g (setAtV (us ++ ex) (off + n * i.size) news).toArray) := by rw [addr_add]; exact hst
      rcases hsrc.kind with ⟨e', hk'⟩ | hk' <;> simp [Builtin.append_, run_underlying ht, run_underlying hk', sizeOf, typeInfo, hi, hsrc.len, hroom, hsrc.cells, hst']
    have hdl : ds.flatten.length = ds.length * i.size := flat_len hds
    rcases h5 with ⟨k, hk1, hk2, hk3, he⟩ | ⟨k, hk1, hk2, hk3, he⟩ | ⟨hn0, rfl, hol, he⟩
    · obtain rfl := k1 k hk1
      obtain ⟨hF2, hle⟩ := hF.setBox (off := off + n * i.size) hg h2 hh hR h1c hnewF hsrc.one (by rw [hdl]; rw [Nat.add_mul] at hk3; omega)
      subst he
      have hsz := hle.bsz b g _ ty hg hh
      obtain ⟨cs', k6, k7⟩ := hsz
      exact done (inpl hk2 _ rfl) ⟨G, R, hF2.put hdn hd5 (.sb _ _ _ _ _ _ g cc hg ⟨k1, hk2, k3, cs', ty, k6, by rw [k7, List.size_toArray, List.length_append]; exact k5⟩)⟩
    · obtain rfl := k1 k hk1
      have hR' := (hR.drop off).take (n * i.size)
      have hul : ((us.drop off).take (n * i.size)).length = n * i.size := by rw [List.length_take, List.length_drop, hR.1]; omega
      have hold : (Builtin.firstCells i.size n (.slice (some ⟨g, off, none⟩) n cc)).run P w.drew = .ok ((us.drop off).take (n * i.size)).toArray w.drew := by
        refine run_firstCells_some w.drew i.size n ⟨g, off, none⟩ n cc _ hul fun j y hy => ?_
        rw [addr_add]
        have : w.drew.cell? ⟨g, off + j, none⟩ = w.cell? ⟨g, off + j, none⟩ := rfl
        rw [this, cell_of_row w g _ _ ty (0, 0) hh]
        rw [List.getElem?_take] at hy
        split at hy
        · rw [List.getElem?_drop] at hy; exact app_get hy
        · cases hy
      obtain ⟨u', w', e', vs, hr, hw, hb, hR2, h1c2, c', rfl, hsb⟩ := hF.growBox (t := t) (ty := o.type) ht hi hz hzs hold hul hR' (fun y hy => h1c y (List.mem_of_mem_drop (List.mem_of_mem_take hy))) hsrc hnewF hk2 h3 h4
      obtain ⟨hF2, _⟩ := hF.newBoxAt hw hb hR2 h1c2
      subst he
      exact done hr ⟨_, R, hF2.put hdn hd5 (.sb _ _ _ _ _ _ _ c' (by show (G ++ [w.heap.size])[st.bx.length]? = _; rw [← hF.bxn]; simp) hsb)⟩
    · have hus : us.length = n * i.size := by rw [hR.1, hol]
      subst he
      rw [Nat.zero_add] at inpl
      by_cases hroom : n + ds.length ≤ cc
      · have hmul : (n + ds.length) * i.size ≤ cc * i.size := Nat.mul_le_mul_right _ hroom
        rw [Nat.add_mul] at hmul
        have hC : setAtV (us ++ ex) (n * i.size) news = (us ++ news) ++ ex.drop news.length := by
          simp only [setAtV]
          rw [List.take_left' hus, ← List.drop_drop, List.drop_left' hus]
        have hhn := setRow_heap w g _ (setAtV (us ++ ex) (n * i.size) news).toArray ty _ hh
        have hF2 := hF.replBox (g' := g) (us := us ++ news) (vs := ex.drop news.length) (t := ty) (w' := w.setRow g (setAtV (us ++ ex) (n * i.size) news).toArray) hg (by omega) rfl rfl rfl (by rw [setRow_size]; exact Nat.le_refl _) (fun k _ hk => setRow_other w g k _ hk) (.inl rfl) (by rw [← hC]; exact hhn) rfl hR hnew
          (fun y hy => (List.mem_append.1 hy).elim (h1c y) (hsrc.one y))
        have hbl := (List.getElem?_eq_some_iff.1 hg).1
        refine done (inpl hroom _ rfl) ⟨_, R, hF2.put hdn hd5 (.sb _ _ _ _ _ _ g cc (by show (G.set b g)[b]? = _; rw [List.getElem?_set_self hbl]) ⟨fun k h => by (cases h), hroom, k3, _, ty, hhn, ?_⟩)⟩
        rw [hC]; simp; omega
      · have hold : (Builtin.firstCells i.size n (.slice (some ⟨g, 0, none⟩) n cc)).run P w.drew = .ok us.toArray w.drew := by
          refine run_firstCells_some w.drew i.size n ⟨g, 0, none⟩ n cc _ hus fun j y hy => ?_
          rw [addr_add]
          have : w.drew.cell? ⟨g, 0 + j, none⟩ = w.cell? ⟨g, 0 + j, none⟩ := rfl
          rw [this, cell_of_row w g _ _ ty (0, 0) hh, Nat.zero_add]
          exact app_get hy
        obtain ⟨u', w', e', vs, hr, hw, hb, hR2, h1c2, c', rfl, hsb⟩ := hF.growBox (t := t) (ty := o.type) ht hi hz hzs hold hus hR h1c hsrc hnewF (by omega) h3 h4
        have hnew' : w'.heap[w.heap.size]? = some (.cells (us ++ news ++ vs).toArray e' (0, 0)) := by rw [hw]; simp
        have hF2 := hF.replBox (g' := w.heap.size) (us := us ++ news) (vs := vs) (t := e') (w' := w') hg (by omega) hb.os hb.tape hb.output hb.size (fun k hk _ => hb.block k hk) (.inr rfl) hnew' rfl hR hnew h1c2
        have hbl := (List.getElem?_eq_some_iff.1 hg).1
        exact done hr ⟨_, R, hF2.put hdn hd5 (.sb _ _ _ _ _ _ _ c' (by show (G.set b w.heap.size)[b]? = _; rw [List.getElem?_set_self hbl]) hsb)⟩
theorem wp_mks {t e : TypeId} {i : TypeInfo} {z : Value} {zs : List PV} {x y : Operand} {p q : PO} {d : Nat} (ho : o.op = .makeSlice t x y) (hd : o.dst = some d) (hdn : d < nt) (hd5 : d < 512) (hx : cPO x = some p) (hy : cPO y = some q)
    (ht : P.underlying t = some (.slice e)) (hi : P.info? e = some i) (hz : i.zero = some z) (hz1 : z.cells.toList.all (·.oneCell') = true) (hzc : z.cells.size = i.size) (hzs : zs = z.cells.toList.map cvc) (hF : FI nt w0 G0 D Dp G R st a w)
    {st' : St} (h : ∃ k k' N C, st.ev p = .v (.int k N) ∧ st.ev q = .v (.int k' C) ∧ 0 ≤ N ∧ N ≤ C ∧ C.toNat * i.bytes ≤ 140737488355328 ∧ C ≤ 140737488355328 ∧
      st' = ⟨st.s.put (slot d) (.sb st.bx.length i.size 0 N.toNat (some C.toNat)), st.bx ++ [(List.replicate C.toNat zs).flatten], st.rw⟩)
    {K : Act → World → Prop} {Q : Exit → Act → World → Prop} (hK : ∀ a' w', FInv nt w0 G0 D Dp st' a' w' → K a' w') : o.wp P a w K Q := by
  obtain ⟨k, k', N, C, h1, h2, h3, h4, h5, h6, rfl⟩ := h
  have r1 := cPO_rel hx hF
  have r2 := cPO_rel hy hF
  rw [h1] at r1
  rw [h2] at r2
  obtain ⟨C, rfl⟩ := Int.eq_ofNat_of_zero_le (Int.le_trans h3 h4)
  rw [Int.toNat_natCast] at *
  have hb : (i.bytes : Int) * (C : Int) ≤ 281474976710656 := by
    have : ((C * i.bytes : Nat) : Int) ≤ ((140737488355328 : Nat) : Int) := Int.ofNat_le.2 h5
    rw [Int.natCast_mul, Int.mul_comm] at this; omega
  have hru := run_make (P := P) w t e i z ht hi hz k k' N C h3 h4 hb (by omega)
  have hrun : (execOp a.eval o).run P w = .ok (.value (.slice (some ⟨w.heap.size, 0, none⟩) N.toNat C)) (w.alloc (.cells (madeCells z.cells (C * i.size)) e)) := by
    simp only [execOp, ho, r1.inv_v, r2.inv_v, Sem.run_bind, hru, Result.andThen_ok, Sem.run_pure, Int.toNat_natCast]
  unfold Oper.wp
  rw [hrun, Oper.upon_value, hd]
  have hm : madeCells z.cells (C * i.size) = ((List.replicate C z.cells.toList).flatten ++ []).toArray := by
    apply Array.ext'
    rw [List.append_nil]
    exact zero_row z.cells i.size C hzc
  have hR0 : ∀ n, RelL (fenv w0 D Dp w G R st.rw) (List.replicate n zs).flatten (List.replicate n z.cells.toList).flatten := by
    intro n
    induction n with
    | zero => exact RelL.nil _
    | succ n ih =>
      rw [List.replicate_succ, List.replicate_succ, List.flatten_cons, List.flatten_cons]
      refine RelL.app ?_ ih
      rw [hzs]
      exact rel_map_cvc _ _
  obtain ⟨hF2, _⟩ := hF.newBoxAt (w1 := w.alloc (.cells (madeCells z.cells (C * i.size)) e)) (vs := []) (e := e) (by rw [← hm]; rfl) (below_al w _) (hR0 C) (fun x hx => by
    obtain ⟨l, hl, hx⟩ := List.mem_flatten.1 hx
    rw [List.eq_of_mem_replicate hl] at hx
    exact (List.all_eq_true.1 hz1) x hx)
  refine hK _ _ ⟨_, R, hF2.put hdn hd5 (.sb _ _ _ _ _ _ _ C (by show (G ++ [w.heap.size])[st.bx.length]? = _; rw [← hF.bxn]; simp) ⟨fun k h => Option.some.inj h, by omega, by simp only [maxLen]; omega, _, e, heap_alloc_new w _, by rw [size_madeCells]; omega⟩)⟩
theorem first_str (l : List UInt8) (k : Nat) : (Builtin.firstCells 1 k (.string ⟨l.toArray⟩)).run P w = .ok ((l.take k).map bV).toArray w := by
  have : ((ByteArray.mk l.toArray).extract 0 k).data = (l.take k).toArray := by
    apply Array.ext'
    simp [List.extract_eq_take_drop]
  simp only [Builtin.firstCells, this, Sem.run_pure]
  congr 1
  simp
  rfl
theorem src_first {sz k : Nat} {q : PV} {ds : List (List PV)} {x : Value} (hF : FI nt w0 G0 D Dp G R st a w)
    (h : Rel (fenv w0 D Dp w G R st.rw) q x) (he : elems st.bx sz q = some ds) (hk : k ≤ ds.length) : (Builtin.lenOf x).run P w = .ok ds.length w ∧ (∀ d ∈ ds, d.length = sz) ∧
    ∃ news, (Builtin.firstCells sz k x).run P w = .ok (List.toArray news) w ∧ RelL (fenv w0 D Dp w G R st.rw).sh (ds.take k).flatten news ∧ ∀ y ∈ news, y.oneCell' = true := by
  have tk : ∀ {ds : List (List PV)} {us : List Value}, k ≤ ds.length → (∀ d ∈ ds, d.length = sz) → RelL (fenv w0 D Dp w G R st.rw).sh ds.flatten us → (∀ y ∈ us, y.oneCell' = true) →
      RelL (fenv w0 D Dp w G R st.rw).sh (ds.take k).flatten (us.take (k * sz)) ∧ (us.take (k * sz)).length = k * sz ∧ ∀ y ∈ us.take (k * sz), y.oneCell' = true := by
    intro ds us hk hd hR h1
    have hc := cut_flat hd 0 k
    rw [List.drop_zero, Nat.zero_mul, List.drop_zero] at hc
    have hul : us.length = ds.length * sz := by rw [hR.1, flat_len hd]
    have := Nat.mul_le_mul_right sz hk
    refine ⟨by rw [hc]; exact hR.take _, by rw [List.length_take]; omega, fun y hy => h1 y (List.mem_of_mem_take hy)⟩
  cases q with
  | sl s es o =>
    simp only [elems] at he
    split at he
    · rename_i hs
      simp only [Option.some.injEq] at he; subst he
      obtain ⟨A, cap, us, rfl, hR, h1, _, _, _, hA0, hm, _, hsz⟩ := h.inv_sl
      have hsz' : ∀ d ∈ es, d.length = sz := fun d hd => by
        rcases hs with rfl | rfl
        · exact hsz d hd
        · cases hd
      obtain ⟨t1, t2, t3⟩ := tk hk hsz' hR h1
      refine ⟨rfl, hsz', us.take (k * sz), ?_, t1, t3⟩
      cases A with
      | none =>
        have hn : us = [] := by
          cases us with
          | nil => rfl
          | cons x r => obtain ⟨b, o, e, _⟩ := hm (by simp); cases e
        subst hn
        simp only [List.take_nil]
        exact run_firstCells_none w sz _ _ _
      | some ad =>
        refine run_firstCells_some w sz k ad es.length cap _ t2 fun j u hu => ?_
        rw [List.getElem?_take] at hu
        split at hu
        · obtain ⟨b, o, e, _, hc⟩ := hm (by rintro rfl; simp at hu)
          simp only [Option.some.injEq] at e
          subst e
          rw [addr_add]; exact hc j u hu
        · cases hu
    · cases he
  | sb i s off n cap =>
    simp only [elems] at he
    split at he
    · rename_i hs
      obtain ⟨rfl, hlen⟩ := hs
      simp only [Option.some.injEq] at he; subst he
      obtain ⟨g, c, rfl, hg, k1, k2, k3, cs, ty, k4, k5⟩ := h.inv_sb
      have hgl : i < st.bx.length := by
        have := (List.getElem?_eq_some_iff.1 hg).1
        rw [hF.bxn] at this; exact this
      obtain ⟨us, vs, ty2, hh, hR, h1c⟩ := hF.bxs.bx i g _ hg (List.getElem?_eq_getElem hgl)
      have hgd : st.bx.getD i [] = st.bx[i] := by rw [List.getD_eq_getElem?_getD, List.getElem?_eq_getElem hgl]; rfl
      rw [hgd] at hlen hk ⊢
      obtain ⟨c1, c2, c3⟩ := chunk_spec s n ((st.bx[i].drop off).map PV.sh1) (by simp; omega)
      have hR2 := ((hR.drop off).sh1).take (n * s)
      rw [← c2] at hR2
      obtain ⟨t1, t2, t3⟩ := tk hk c3 hR2 (fun y hy => h1c y (List.mem_of_mem_drop (List.mem_of_mem_take hy)))
      rw [c1] at hk ⊢
      refine ⟨rfl, c3, _, ?_, t1, t3⟩
      refine run_firstCells_some w s k ⟨g, off, none⟩ n c _ t2 fun j u hu => ?_
      rw [addr_add, cell_of_row w g _ _ ty2 (0, 0) hh]
      rw [List.getElem?_take] at hu
      split at hu
      · rw [List.getElem?_take] at hu
        split at hu
        · rw [List.getElem?_drop] at hu; exact app_get hu
        · cases hu
      · cases hu
    · cases he
  | v y =>
    cases y with
    | string t =>
      simp only [elems] at he
      split at he
      · rename_i hs; subst hs
        simp only [Option.some.injEq] at he; subst he
        rw [h.inv_v]
        have ht : t = ⟨t.data.toList.toArray⟩ := by cases t; simp
        generalize t.data.toList = l at *
        subst ht
        refine ⟨by simp [Builtin.lenOf, str_size], fun d hd => by simp at hd; obtain ⟨_, _, rfl⟩ := hd; rfl, _, first_str l k, ⟨?_, fun j p u hp hu => ?_⟩, map_bV_one _⟩
        · rw [← List.map_take, flat_sing]; simp
        · rw [← List.map_take, flat_sing, List.getElem?_map, Option.map_eq_some_iff] at hp
          obtain ⟨c, hc, rfl⟩ := hp
          rw [List.getElem?_map, hc] at hu
          simp at hu; subst hu
          exact .v _ _
      · cases he
    | _ => simp [elems] at he
  | _ => simp [elems] at he
theorem wp_cpy {t tx e : TypeId} {i : TypeInfo} {x y : Operand} {p q : PO} {d : Nat} (ho : o.op = .call { callee := .builtin .copy, args := #[x, y], argTypes := #[t, tx] }) (hd : o.dst = some d) (hdn : d < nt) (hd5 : d < 512) (hx : cPO x = some p) (hy : cPO y = some q)
    (ht : P.underlying t = some (.slice e)) (hi : P.info? e = some i) (hF : FI nt w0 G0 D Dp G R st a w)
    {st' : St} (h : ∃ ds, elems st.bx i.size (st.ev q) = some ds ∧
      ((∃ s o, st.ev p = .sl s [] o ∧ st' = st.put (slot d) (.v (.int .i64 0))) ∨
       (∃ b off n c old, st.ev p = .sb b i.size off n c ∧ st.bx[b]? = some old ∧ off + (min n ds.length) * i.size ≤ old.length ∧
         st' = ⟨st.s.put (slot d) (.v (.int .i64 (min n ds.length : Nat))), st.bx.set b (setAt old off (ds.take n).flatten), st.rw⟩)))
    {K : Act → World → Prop} {Q : Exit → Act → World → Prop} (hK : ∀ a' w', FInv nt w0 G0 D Dp st' a' w' → K a' w') : o.wp P a w K Q := by
  obtain ⟨ds, hel, h⟩ := h
  have r1 := cPO_rel hx hF
  have r2 := cPO_rel hy hF
  have done : ∀ {u' : Value} {w' : World}, (Builtin.copy_ #[t, tx] o.type #[a.eval x, a.eval y]).run P w = .ok u' w' → FInv nt w0 G0 D Dp st' (a.put (some d) u') w' → o.wp P a w K Q := by
    intro u' w' hr hF'
    have hrun : (execOp a.eval o).run P w = .ok (.value u') w' := by
      simp only [execOp, ho, resolve, invoke, builtin, Sem.run_bind, Sem.run_pure, Result.andThen_ok, List.map_toArray, List.map_cons, List.map_nil, hr]
    unfold Oper.wp
    rw [hrun, Oper.upon_value, hd]
    exact hK _ _ hF'
  rcases h with ⟨s, ow, h1, rfl⟩ | ⟨b, off, n, c, old, h1, h2, h3, rfl⟩
  · rw [h1] at r1
    obtain ⟨A, cap, us, hu, _⟩ := r1.inv_sl
    obtain ⟨s1, s2, news, s3, s4, s5⟩ := src_first (P := P) (k := 0) hF r2 hel (Nat.zero_le _)
    have hn : news = [] := List.eq_nil_of_length_eq_zero (by rw [s4.1]; simp)
    subst hn
    rw [hu] at done
    refine done (u' := .int .i64 0) (w' := w) ?_ ⟨G, R, hF.put hdn hd5 (.v _ _)⟩
    cases A with
    | none => simp [Builtin.copy_, run_underlying ht, s1, sizeOf, typeInfo, hi, s3, goInt]
    | some ad => simp [Builtin.copy_, run_underlying ht, s1, sizeOf, typeInfo, hi, s3, goInt, storeCells]
  · rw [h1] at r1
    obtain ⟨g, cc, hu, hg, k1, k2, k3, cs, ty, k4, k5⟩ := r1.inv_sb
    obtain ⟨us, ex, ty2, hh, hR, h1c⟩ := hF.bxs.bx b g old hg h2
    have hh : w.heap[g]? = some (.cells (us ++ ex).toArray ty2 (0, 0)) := hh
    obtain ⟨s1, s2, news, s3, s4, s5⟩ := src_first (P := P) (k := min n ds.length) hF r2 hel (Nat.min_le_right _ _)
    have htk : ds.take (min n ds.length) = ds.take n := by
      rcases Nat.le_total n ds.length with h | h
      · rw [Nat.min_eq_left h]
      · rw [Nat.min_eq_right h, List.take_length, List.take_of_length_le h]
    rw [htk] at s4
    have hfl : (ds.take n).flatten.length = (min n ds.length) * i.size := by
      rw [flat_len (fun d hd => s2 d (List.mem_of_mem_take hd)), List.length_take]
    have hnl : news.length = (min n ds.length) * i.size := by rw [s4.1, hfl]
    have hul : us.length = old.length := hR.1
    have hst := run_storeCells_at (P := P) g off ty2 news 0 (us ++ ex).toArray w hh (by simp; omega) s5
    rw [Nat.add_zero] at hst
    obtain ⟨hF2, hle⟩ := hF.setBox (off := off) hg h2 hh hR h1c (s4.mono fenv_sh_le) s5 (by rw [hfl]; exact h3)
    rw [hu] at done
    refine done (u' := .int .i64 (min n ds.length : Nat)) ?_ ⟨G, R, hF2.put hdn hd5 (.v _ _)⟩
    have hmin : Nat.min ds.length n = min n ds.length := Nat.min_comm _ _
    have hst' : (storeCells (⟨g, off, none⟩ : Addr) news).run P w = .ok () (w.setRow g (setAtV (us ++ ex) off news).toArray) := hst
    simp [Builtin.copy_, run_underlying ht, s1, Nat.min_comm ds.length n, sizeOf, typeInfo, hi, s3, hst', goInt]
theorem wp_clr {t e : TypeId} {i : TypeInfo} {z : Value} {zs : List PV} {x : Operand} {p : PO} (ho : o.op = .call { callee := .builtin .clear, args := #[x], argTypes := #[t] }) (hd : o.dst = none) (hx : cPO x = some p)
    (ht : P.underlying t = some (.slice e)) (hi : P.info? e = some i) (hz : i.zero = some z) (hz1 : z.cells.toList.all (·.oneCell') = true) (hzc : z.cells.size = i.size) (hzs : zs = z.cells.toList.map cvc) (hF : FI nt w0 G0 D Dp G R st a w)
    {st' : St} (h : (∃ s o, st.ev p = .sl s [] o ∧ st' = st) ∨
      (∃ b off n c old, st.ev p = .sb b i.size off n c ∧ st.bx[b]? = some old ∧ off + n * i.size ≤ old.length ∧ st' = ⟨st.s, st.bx.set b (setAt old off (List.replicate n zs).flatten), st.rw⟩))
    {K : Act → World → Prop} {Q : Exit → Act → World → Prop} (hK : ∀ a' w', FInv nt w0 G0 D Dp st' a' w' → K a' w') : o.wp P a w K Q := by
  have r1 := cPO_rel hx hF
  have done : ∀ {u' : Value} {w' : World}, (Builtin.clear_ #[t] o.type #[a.eval x]).run P w = .ok u' w' → FInv nt w0 G0 D Dp st' a w' → o.wp P a w K Q := by
    intro u' w' hr hF'
    have hrun : (execOp a.eval o).run P w = .ok (.value u') w' := by
      simp only [execOp, ho, resolve, invoke, builtin, Sem.run_bind, Sem.run_pure, Result.andThen_ok, List.map_toArray, List.map_cons, List.map_nil, hr]
    unfold Oper.wp
    rw [hrun, Oper.upon_value, hd]
    exact hK _ _ hF'
  rcases h with ⟨s, ow, h1, rfl⟩ | ⟨b, off, n, c, old, h1, h2, h3, rfl⟩
  · rw [h1] at r1
    obtain ⟨A, cap, us, hu, _⟩ := r1.inv_sl
    rw [hu] at done
    refine done (u' := .tuple #[]) (w' := w) ?_ ⟨G, R, hF⟩
    cases A <;> simp [Builtin.clear_, run_underlying ht]
  · rw [h1] at r1
    obtain ⟨g, cc, hu, hg, k1, k2, k3, cs, ty, k4, k5⟩ := r1.inv_sb
    obtain ⟨us, ex, ty2, hh, hR, h1c⟩ := hF.bxs.bx b g old hg h2
    have hh : w.heap[g]? = some (.cells (us ++ ex).toArray ty2 (0, 0)) := hh
    have hul : us.length = old.length := hR.1
    rw [hu] at done
    have hR0 : ∀ n, RelL (fenv w0 D Dp w G R st.rw) (List.replicate n zs).flatten (List.replicate n z.cells.toList).flatten ∧ (List.replicate n z.cells.toList).flatten.length = n * i.size := by
      intro n
      induction n with
      | zero => exact ⟨RelL.nil _, by simp⟩
      | succ n ih =>
        rw [List.replicate_succ, List.replicate_succ, List.flatten_cons, List.flatten_cons]
        refine ⟨RelL.app ?_ ih.1, by rw [List.length_append, ih.2, Array.length_toList, hzc, Nat.succ_mul]; omega⟩
        rw [hzs]
        exact rel_map_cvc _ _
    have hone : ∀ x ∈ (List.replicate n z.cells.toList).flatten, x.oneCell' = true := fun x hx => by
      obtain ⟨l, hl, hx⟩ := List.mem_flatten.1 hx
      rw [List.eq_of_mem_replicate hl] at hx
      exact (List.all_eq_true.1 hz1) x hx
    have hzl : (List.replicate n zs).flatten.length = n * i.size := by rw [← (hR0 n).1.1]; exact (hR0 n).2
    obtain ⟨hF2, hle⟩ := hF.setBox (off := off) hg h2 hh hR h1c (hR0 n).1 hone (by rw [hzl]; exact h3)
    by_cases hn : n = 0
    · subst hn
      have h0 : setAt old off (List.replicate 0 zs).flatten = old := by simp [setAt]
      refine done (u' := .tuple #[]) (w' := w) ?_ ⟨G, R, ?_⟩
      · simp [Builtin.clear_, run_underlying ht]
      · rw [h0, set_same h2]; exact hF
    · have hst := run_storeCells_at (P := P) g off ty2 (List.replicate n z.cells.toList).flatten 0 (us ++ ex).toArray w hh (by rw [(hR0 n).2]; simp; omega) hone
      rw [Nat.add_zero] at hst
      have hzr : (Builtin.zeroCells z.cells n).toList = (List.replicate n z.cells.toList).flatten := zero_row z.cells z.cells.size n rfl
      have hst' : (storeCells (⟨g, off, none⟩ : Addr) (List.replicate n z.cells.toList).flatten).run P w = .ok () (w.setRow g (setAtV (us ++ ex) off (List.replicate n z.cells.toList).flatten).toArray) := hst
      refine done (u' := .tuple #[]) ?_ ⟨G, R, hF2⟩
      obtain ⟨m, rfl⟩ := Nat.exists_eq_succ_of_ne_zero hn
      simp [Builtin.clear_, run_underlying ht, zeroValue, typeInfo, hi, hz, hzr, hst']
end
def cDst (nt : Nat) : Option Tmp → Option Slot
  | some d => if d < nt ∧ d < 512 then some (slot d) else none
  | none => none
theorem cDst_spec {nt : Nat} {d : Option Tmp} {s : Slot} (h : cDst nt d = some s) : ∃ t, d = some t ∧ s = slot t ∧ t < nt ∧ t < 512 := by
  cases d with
  | none => cases h
  | some t =>
    simp only [cDst] at h
    split at h
    · rename_i ht; simp at h; exact ⟨t, rfl, h.symm, ht.1, ht.2⟩
    · cases h
end Go.Proofs.Ytdkancgcefklfaa
