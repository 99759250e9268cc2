/-
  Operations that only make a value, the last: literals, texts as bytes, calls.
-/
import Derived.Test.YtdkancgcefklfaaP6
namespace Go.Proofs.Ytdkancgcefklfaa
open Go.RowKit

def setAtV (cs : List Value) (off : Nat) (new : List Value) : List Value := cs.take off ++ new ++ cs.drop (off + new.length)
theorem RelL.setAt {E : Env} {cs ds : List PV} {us vs : List Value} (h : RelL E cs us) (k : RelL E ds vs) (off : Nat) : RelL E (setAt cs off ds) (setAtV us off vs) := by
  unfold Go.Proofs.Ytdkancgcefklfaa.setAt setAtV
  rw [k.1]
  exact ((h.take off).app k).app (h.drop _)
theorem mem_setAtV {cs : List Value} {off : Nat} {new : List Value} {x : Value} (h : x ∈ setAtV cs off new) : x ∈ cs ∨ x ∈ new := by
  simp only [setAtV, List.mem_append] at h
  rcases h with (h | h) | h
  · exact .inl (List.mem_of_mem_take h)
  · exact .inr h
  · exact .inl (List.mem_of_mem_drop h)
theorem setAtV_length {cs : List Value} {off : Nat} {new : List Value} (h : off + new.length ≤ cs.length) : (setAtV cs off new).length = cs.length := by
  simp only [setAtV, List.length_append, List.length_take, List.length_drop]; omega
theorem foldl_set : ∀ (vs : List Value) (k off : Nat) (cs : Array Value), off + k + vs.length ≤ cs.size →
    ((vs.zipIdx k).foldl (fun cs (x : Value × Nat) => cs.setIfInBounds (off + x.2) x.1) cs).toList = setAtV cs.toList (off + k) vs
  | [], k, off, cs, _ => by simp [setAtV]
  | x :: r, k, off, cs, h => by
    rw [List.zipIdx_cons, List.foldl_cons, foldl_set r (k + 1) off _ (by simp at h ⊢; omega)]
    simp only [List.length_cons] at h
    have hset : cs.toList.set (off + k) x = cs.toList.take (off + k) ++ x :: cs.toList.drop (off + k + 1) := by
      rw [List.set_eq_take_append_cons_drop, if_pos (by simp; omega)]
    have hl : (cs.toList.take (off + k) ++ [x]).length = off + (k + 1) := by simp; omega
    simp only [setAtV, Array.toList_setIfInBounds, hset, List.length_cons]
    rw [show cs.toList.take (off + k) ++ x :: cs.toList.drop (off + k + 1) = (cs.toList.take (off + k) ++ [x]) ++ cs.toList.drop (off + k + 1) by simp]
    rw [List.take_left' hl, ← List.drop_drop, List.drop_left' hl, List.drop_drop]
    simp [show off + k + 1 + r.length = off + k + (r.length + 1) by omega]
theorem fill_one (place : Nat → Option (Nat × Nat)) (cs : Array Value) (i off n : Nat) (x : Value) (rest : List (Nat × Value)) (hp : place i = some (off, n)) (hx : x.cells.size = n) (hc : off + n ≤ cs.size) :
    Instr.fill place cs ((i, x) :: rest) = Instr.fill place (setAtV cs.toList off x.cells.toList).toArray rest := by
  simp only [Instr.fill, hp]
  rw [if_neg (by simp [hx]; omega)]
  congr 1
  have := foldl_set x.cells.toList 0 off cs (by simp [hx]; omega)
  rw [Nat.add_zero] at this
  rw [← this, ← Array.foldl_toList]
  simp

section
variable {P : Program} {nt : Nat} {w0 : World} {G0 : List Nat} {D Dp : Nat → Nat → Prop} {G : List Nat} {R : List (Option Rec)} {st : St} {a : Act} {w : World} {v : PV} {o : Oper}

/-- parts as the code over plain views has them -/
def cParts (places : Nat → Option (Nat × Nat)) : List (Nat × Operand) → Option (List (Nat × Nat × PO))
  | [] => some []
  | (i, x) :: r => (places i).bind fun pl => (cPO x).bind fun y => (cParts places r).map ((pl.1, pl.2, y) :: ·)
theorem fill_rel {E : Env} (hE : ∀ x p, cPO x = some p → Rel E (st.ev p) (a.eval x)) (places : Nat → Option (Nat × Nat)) : ∀ (xs : List (Nat × Operand)) (ps : List (Nat × Nat × PO)) (cs cs' : List PV) (us : List Value), cParts places xs = some ps → fillP st.ev ps cs = some cs' →
    RelL E cs us → (∀ x ∈ us, x.oneCell' = true) →
    ∃ us', Instr.fill places us.toArray (xs.map fun (i, x) => (i, a.eval x)) = some us'.toArray ∧ RelL E cs' us' ∧ ∀ x ∈ us', x.oneCell' = true
  | [], ps, cs, cs', us, h1, h2, hR, h1c => by
    simp [cParts] at h1; subst h1
    simp [fillP] at h2; subst h2
    exact ⟨us, by simp [Instr.fill], hR, h1c⟩
  | (i, x) :: r, ps, cs, cs', us, h1, h2, hR, h1c => by
    simp only [cParts, Option.bind_eq_some_iff, Option.map_eq_some_iff] at h1
    obtain ⟨⟨off, n⟩, hpl, y, hy, ps', h3, rfl⟩ := h1
    simp only [fillP] at h2
    split at h2
    · rename_i hc
      simp only [Bool.and_eq_true, beq_iff_eq, decide_eq_true_eq] at hc
      obtain ⟨⟨hc1, hc2⟩, hc3⟩ := hc
      obtain ⟨hr1, hr2⟩ := (hE x y hy).inv_cells hc1
      have hR2 := hR.setAt hr1 off
      obtain ⟨us', hf, hR', h1c'⟩ := fill_rel hE places r ps' _ cs' _ h3 h2 hR2 (fun z hz => by
        rcases mem_setAtV hz with h | h
        · exact h1c z h
        · exact hr2 z h)
      refine ⟨us', ?_, hR', h1c'⟩
      rw [List.map_cons, fill_one places _ i off n (a.eval x) _ hpl (by have := hr1.1; simp at this; omega) (by have := hR.1; simp; omega)]
      exact hf
    · cases h2
theorem ex_bld {t : TypeId} {xs : List (Nat × Operand)} {ps : List (Nat × Nat × PO)} {places : Nat → Option (Nat × Nat)} {it : TypeInfo} {z : Value} {zs : List PV} (ho : o.op = .build t (List.toArray xs)) (hps : cParts places xs = some ps)
    (_hit : P.info? t = some it) (_hz : it.zero = some z) (hz1 : z.cells.toList.all (·.oneCell') = true) (hzs : zs = z.cells.toList.map cvc)
    (hpl : ∀ parts, P.built t parts = Instr.fill places z.cells parts) (hF : FI nt w0 G0 D Dp G R st a w)
    (h : ∃ cs, fillP st.ev ps zs = some cs ∧ v = .agg cs) : Runs P o a w (fun w' => fenv w0 D Dp w' G R st.rw) v := by
  obtain ⟨cs, h1, rfl⟩ := h
  subst hzs
  obtain ⟨us, hf, hR, h1c⟩ := fill_rel (E := fenv w0 D Dp w G R st.rw) (st := st) (a := a) (fun x p hp => cPO_rel hp hF) places xs ps _ cs z.cells.toList hps h1 (rel_map_cvc _ _) (fun x hx => (List.all_eq_true.1 hz1) x hx)
  have hb : P.built t (xs.map fun (i, x) => (i, a.eval x)) = some us.toArray := by rw [hpl]; simpa using hf
  have hr := run_build (P := P) w t ((List.toArray xs).map fun (i, x) => (i, a.eval x)) us.toArray (by simpa using hb)
  refine runs_same (u := .agg us.toArray) ?_ (.agg _ cs us hR.1 hR.2 h1c)
  simp only [execOp, ho, Sem.run_bind, hr, Result.andThen_ok, Sem.run_pure]

/-! ### slices' literals -/
def cElems : List (Nat × Operand) → Option (List (Nat × PO))
  | [] => some []
  | (i, x) :: r => (cPO x).bind fun y => (cElems r).map ((i, y) :: ·)
theorem flat_set {sz : Nat} {es : List (List PV)} (hs : ∀ e ∈ es, e.length = sz) (i : Nat) (hi : i < es.length) (c : List PV) (hc : c.length = sz) : (es.set i c).flatten = setAt es.flatten (i * sz) c := by
  induction es generalizing i with
  | nil => simp at hi
  | cons e r ih =>
    have he := hs e (by simp)
    cases i with
    | zero => simp [setAt, hc, ← he]
    | succ i =>
      rw [List.set_cons_succ, List.flatten_cons, ih (fun x hx => hs x (by simp [hx])) i (by simpa using hi), List.flatten_cons]
      simp only [setAt, Nat.succ_mul]
      rw [Nat.add_comm (i * sz) sz, ← he, List.take_length_add_append, Nat.add_assoc, List.drop_length_add_append]
      simp
theorem fillE_rel {E : Env} (hE : ∀ x p, cPO x = some p → Rel E (st.ev p) (a.eval x)) (sz : Nat) : ∀ (xs : List (Nat × Operand)) (ps : List (Nat × PO)) (es es' : List (List PV)) (us : List Value), cElems xs = some ps → fillE st.ev sz ps es = some es' →
    (∀ e ∈ es, e.length = sz) → RelL E.sh es.flatten us → (∀ x ∈ us, x.oneCell' = true) →
    ∃ us', Instr.fill (fun i => some (i * sz, sz)) us.toArray (xs.map fun (i, x) => (i, a.eval x)) = some us'.toArray ∧ RelL E.sh es'.flatten us' ∧ (∀ x ∈ us', x.oneCell' = true) ∧ (∀ e ∈ es', e.length = sz) ∧ es'.length = es.length
  | [], ps, es, es', us, h1, h2, hs, hR, h1c => by
    simp [cElems] at h1; subst h1
    simp [fillE] at h2; subst h2
    exact ⟨us, by simp [Instr.fill], hR, h1c, hs, rfl⟩
  | (i, x) :: r, ps, es, es', us, h1, h2, hs, hR, h1c => by
    simp only [cElems, Option.bind_eq_some_iff, Option.map_eq_some_iff] at h1
    obtain ⟨y, hy, ps', h3, rfl⟩ := h1
    simp only [fillE] at h2
    split at h2
    · rename_i hc
      simp only [Bool.and_eq_true, beq_iff_eq, decide_eq_true_eq] at hc
      obtain ⟨⟨hc1, hc2⟩, hc3⟩ := hc
      obtain ⟨hr1, hr2⟩ := (hE x y hy).inv_cells hc1
      have hr1' := hr1.sh1
      have hfs := flat_set hs i hc3 ((st.ev y).cells.map PV.sh1) (by simp [hc2])
      have hR2 := hR.setAt hr1' (i * sz)
      rw [← hfs] at hR2
      obtain ⟨us', hf, hR', h1c', hs', hl'⟩ := fillE_rel hE sz r ps' _ es' _ h3 h2 (fun e he => by
        rcases List.mem_or_eq_of_mem_set he with h | h
        · exact hs e h
        · rw [h]; simp [hc2]) hR2 (fun z hz => by
        rcases mem_setAtV hz with h | h
        · exact h1c z h
        · exact hr2 z h)
      refine ⟨us', ?_, hR', h1c', hs', by simpa using hl'⟩
      have hfl := flat_len hs
      have hmul : i * sz + sz ≤ es.length * sz := by rw [← Nat.succ_mul]; exact Nat.mul_le_mul_right _ hc3
      rw [List.map_cons, fill_one _ _ i (i * sz) sz (a.eval x) _ rfl (by have := hr1.1; simp at this; omega) (by have := hR.1; simp; omega)]
      exact hf
    · cases h2
theorem fresh_dom {w0 : World} {rw_ : List Nat} {D : Nat → Nat → Prop} {w w' : World} (hw : w0.heap.size ≤ w.heap.size) (hlt : w.heap.size < w'.heap.size) (hG : ∀ g ∈ G, g < w.heap.size) (hR : ∀ (k : Nat) r n, R[k]? = some (some r) → rw_[k]? = some n → r.g < w.heap.size) (e : Nat) :
    inDom w0 w' D G R rw_ w.heap.size e := by
  refine ⟨hlt, fun h => by omega, fun h => ?_, fun k r n hk hn hg => ?_⟩
  · have := hG _ h; omega
  · have := hR k r n hk hn; omega
theorem FI.glt (hF : FI nt w0 G0 D Dp G R st a w) : ∀ g ∈ G, g < w.heap.size := by
  intro g hg
  obtain ⟨i, hi, rfl⟩ := List.getElem_of_mem hg
  have hi' : i < st.bx.length := by rw [← hF.bxn]; exact hi
  obtain ⟨us, vs, t, h, _⟩ := hF.bxs.bx i _ _ (List.getElem?_eq_getElem hi) (List.getElem?_eq_getElem hi')
  exact (Array.getElem?_eq_some_iff.1 h).1
theorem FI.rlt (hF : FI nt w0 G0 D Dp G R st a w) : ∀ (k : Nat) r n, R[k]? = some (some r) → st.rw[k]? = some n → r.g < w.heap.size := by
  intro k r n hk hn
  obtain ⟨_, _, xs, h⟩ := hF.rws k r n hk hn
  exact (h.lt r.g rfl).2
theorem zero_row (z : Array Value) (sz n : Nat) (hz : z.size = sz) : ((Array.range (n * sz)).map (fun i => z[i % z.size]!)).toList = (List.replicate n z.toList).flatten := by
  subst hz
  induction n with
  | zero => simp
  | succ n ih =>
    rw [List.replicate_succ', List.flatten_append, ← ih]
    apply List.ext_getElem?
    intro j
    simp only [Array.toList_map, Array.toList_range, List.getElem?_map, List.flatten_cons, List.flatten_nil, List.append_nil, List.getElem?_append, List.length_map, List.length_range, Nat.succ_mul]
    by_cases h1 : j < n * z.size
    · simp [h1, show j < n * z.size + z.size by omega]
    · simp only [h1, if_false]
      by_cases h2 : j < n * z.size + z.size
      · have h3 : j - n * z.size < z.size := by omega
        have h4 : j % z.size = j - n * z.size := by
          rw [show j = (j - n * z.size) + n * z.size by omega, Nat.add_mul_mod_self_right, Nat.mod_eq_of_lt h3]; omega
        rw [List.getElem?_range (by omega)]
        simp [h4, h3]
      · rw [List.getElem?_eq_none (by simp; omega)]
        simp; omega
theorem fill_fn {f : FuncId} {us : Array Value} {c : Value} : Instr.fill (fun i => some (i * 1, 1)) #[c] [(0, .func (.func f) #[] us)] = some #[.func (.func f) #[] us] := by
  simp [Instr.fill, Value.cells, Array.zipIdx]
theorem ex_litF {t e : TypeId} {n : Nat} {xs : List (Nat × Operand)} {ps : List (Nat × PO)} {ie : TypeInfo} {z : Value} (ho : o.op = .buildSlice t n (List.toArray xs)) (hps : cElems xs = some ps) (ht : P.underlying t = some (.slice e))
    (hie : P.info? e = some ie) (hz : ie.zero = some z) (hzc : z.cells.size = ie.size) (hF : FI nt w0 G0 D Dp G R st a w)
    (h : ∃ x f cs, ps = [(0, x)] ∧ n = 1 ∧ ie.size = 1 ∧ st.ev x = .fn f cs ∧ v = .fs f cs) : Runs P o a w (fun w' => fenv w0 D Dp w' G R st.rw) v := by
  obtain ⟨x, f, cs, rfl, rfl, h3, h4, rfl⟩ := h
  match xs, hps with
  | (i, y) :: (j, y2) :: r, hps => simp [cElems, Option.bind_eq_some_iff] at hps
  | [(i, y)], hps =>
    simp only [cElems, Option.bind_eq_some_iff, Option.map_eq_some_iff, Option.some.injEq] at hps
    obtain ⟨y', hy, ps', rfl, hps⟩ := hps
    simp only [List.cons.injEq, Prod.mk.injEq, and_true] at hps
    obtain ⟨rfl, rfl⟩ := hps
    have r1 := cPO_rel hy hF
    rw [h4] at r1
    obtain ⟨us, hu, hR⟩ := r1.inv_fn
    obtain ⟨c, hc⟩ : ∃ c, z.cells = #[c] := by
      rw [h3] at hzc
      exact ⟨z.cells[0], by apply Array.ext (by simpa using hzc); intro i h1 h2; simp at h2; subst h2; rfl⟩
    have : (Instr.buildSlice t 1 (List.toArray [(0, a.eval y)])).run P w = .ok (.slice (some ⟨w.heap.size, 0, none⟩) 1 1) (w.alloc (.cells #[.func (.func f) #[] us.toArray] e)) := by
      unfold Instr.buildSlice
      simp only [Sem.run_bind, run_underlying ht, Result.andThen_ok, sizeOf, typeInfo, run_program, hie, Sem.run_pure, h3]
      rw [if_neg (by omega), if_neg (by omega)]
      simp only [Sem.run_bind, Result.andThen_ok, Sem.run_pure, zeroValue, typeInfo, run_program, hie, hz, hc, hu]
      have e1 : (Array.range (1 * 1)).map (fun i => (#[c] : Array Value)[i % (#[c] : Array Value).size]!) = #[c] := by
        apply Array.ext'; simp
      rw [e1, fill_fn]
      simp only [newRow, run_newObj, Sem.run_bind, Result.andThen_ok, Sem.run_pure]
      rfl
    have hle' := fenv_le (w0 := w0) (D := D) (Dp := Dp) (G := G) (R := R) (rw := st.rw) (below_al w (.cells #[.func (.func f) #[] us.toArray] e))
    refine ⟨.slice (some ⟨w.heap.size, 0, none⟩) 1 1, w.alloc (.cells #[.func (.func f) #[] us.toArray] e), ?_, below_al _ _, ?_⟩
    · have e2 : (([(0, y)] : List (Nat × Operand)).map fun (i, x) => (i, a.eval x)).toArray = List.toArray [(0, a.eval y)] := rfl
      simp only [execOp, ho, Sem.run_bind, List.map_toArray]
      rw [e2, this]
      simp only [Result.andThen_ok, Sem.run_pure]
    · have hR2 := hR.mono hle'
      refine .fs _ _ _ _ _ us hR2.1 hR2.2 (by show w.heap.size < (w.alloc _).heap.size; simp) ?_ ?_
      · show inDom w0 (w.alloc (.cells #[.func (.func f) #[] us.toArray] e)) (fun b e => D b e ∨ Dp b e) G R st.rw w.heap.size (0 + 1)
        exact fresh_dom hF.hB.size (by simp) hF.glt hF.rlt _
      show (w.alloc _).cell? _ = _
      have := cell_of_row (w.alloc (.cells #[.func (.func f) #[] us.toArray] e)) w.heap.size 0 #[.func (.func f) #[] us.toArray] e (0, 0) (heap_alloc_new w _)
      simp
theorem ex_lit {t e : TypeId} {n : Nat} {xs : List (Nat × Operand)} {ps : List (Nat × PO)} {ie : TypeInfo} {z : Value} {zs : List PV} (ho : o.op = .buildSlice t n (List.toArray xs)) (hps : cElems xs = some ps) (ht : P.underlying t = some (.slice e))
    (hie : P.info? e = some ie) (hz : ie.zero = some z) (hzc : z.cells.size = ie.size) (hz1 : z.cells.toList.all (·.oneCell') = true) (hzs : zs = z.cells.toList.map cvc) (hn : n * ie.size ≤ 16777216) (hsz : 0 < ie.size) (hF : FI nt w0 G0 D Dp G R st a w)
    (h : ∃ es, fillE st.ev ie.size ps (List.replicate n zs) = some es ∧ v = .sl ie.size es .full) : Runs P o a w (fun w' => fenv w0 D Dp w' G R st.rw) v := by
  obtain ⟨es, h1, rfl⟩ := h
  have hzl : zs.length = ie.size := by rw [hzs]; simpa using hzc
  have hR0 : ∀ n, RelL (fenv w0 D Dp w G R st.rw).sh (List.replicate n zs).flatten (List.replicate n z.cells.toList).flatten := by
    intro n
    induction n with
    | zero => exact RelL.nil _
    | succ n ih =>
      rw [List.replicate_succ, List.replicate_succ, List.flatten_cons, List.flatten_cons]
      refine RelL.app ?_ ih
      rw [hzs]
      exact rel_map_cvc _ _
  obtain ⟨us, hf, hR, h1c, hs', hl'⟩ := fillE_rel (E := fenv w0 D Dp w G R st.rw) (st := st) (a := a) (fun x p hp => cPO_rel hp hF) ie.size xs ps _ es _ hps h1 (fun e he => by rw [List.eq_of_mem_replicate he]; exact hzl) (hR0 n) (fun x hx => by
    obtain ⟨l, hl, hx⟩ := List.mem_flatten.1 hx
    rw [List.eq_of_mem_replicate hl] at hx
    exact (List.all_eq_true.1 hz1) x hx)
  rw [List.length_replicate] at hl'
  have hle : us.length = es.length * ie.size := by rw [hR.1, flat_len hs']
  refine ⟨.slice (some ⟨w.heap.size, 0, none⟩) n n, w.alloc (.cells us.toArray e), ?_, below_al _ _, ?_⟩
  · have hrow : ∀ f : Nat → Value, n * ie.size = 0 → (Array.range (n * ie.size)).map f = (List.replicate n z.cells.toList).flatten.toArray := by
      intro f hn0
      have : n = 0 := by rcases Nat.mul_eq_zero.1 hn0 with h | h <;> omega
      subst this
      apply Array.ext'; simp
    have hrow2 : (Array.range (n * ie.size)).map (fun i => z.cells[i % z.cells.size]!) = (List.replicate n z.cells.toList).flatten.toArray := by
      apply Array.ext'
      rw [zero_row z.cells ie.size n hzc]
    have : (Instr.buildSlice t n (xs.map fun (i, x) => (i, a.eval x)).toArray).run P w = .ok (.slice (some ⟨w.heap.size, 0, none⟩) n n) (w.alloc (.cells us.toArray e)) := by
      unfold Instr.buildSlice
      simp only [Sem.run_bind, run_underlying ht, Result.andThen_ok, sizeOf, typeInfo, run_program, hie, Sem.run_pure]
      rw [if_neg (by omega)]
      rw [Sem.run_ite]
      split
      · rename_i hn0
        simp only [Sem.run_bind, Result.andThen_ok, Sem.run_pure, hrow _ hn0, hf, newRow, run_newObj]
        rfl
      · simp only [Sem.run_bind, Result.andThen_ok, Sem.run_pure, zeroValue, typeInfo, run_program, hie, hz, hrow2, hf, newRow, run_newObj]
        rfl
    simp only [execOp, ho, Sem.run_bind, List.map_toArray, this, Result.andThen_ok, Sem.run_pure]
  · rw [← hl']
    have hle' := fenv_le (w0 := w0) (D := D) (Dp := Dp) (G := G) (R := R) (rw := st.rw) (below_al w (.cells us.toArray e))
    have hR2 := hR.mono hle'.sh
    have hnn : es.length ≤ 16777216 := by
      have := Nat.le_mul_of_pos_right es.length hsz
      rw [hl'] at this ⊢
      omega
    refine .sl _ _ _ _ _ _ us hs' hR2.1 hR2.2 h1c (Nat.le_refl _) (by simp only [maxLen]; omega) (fun h => by cases h) (fun ad h => ?_) (fun hne => ?_) rfl
    · simp at h; subst h
      exact fun _ => ⟨rfl, by show w.heap.size < (w.alloc _).heap.size; simp⟩
    · refine ⟨w.heap.size, 0, rfl, fresh_dom hF.hB.size (by simp) hF.glt hF.rlt _, fun j x hx => ?_⟩
      show (w.alloc _).cell? _ = _
      rw [cell_of_row _ _ _ us.toArray e (0, 0) (heap_alloc_new w _)]
      simpa using hx
theorem ex_csb {x : Operand} {p : PO} {s t e : TypeId} (ho : o.op = .convert s t x) (hx : cPO x = some p) (hs : P.underlying s = some .string) (ht : P.underlying t = some (.slice e)) (he : P.underlying e = some (.int .u8)) (hF : FI nt w0 G0 D Dp G R st a w)
    (h : ∃ l : List UInt8, st.ev p = .str l ∧ l.length ≤ 4611686018427387904 ∧ v = .sl 1 (l.map fun c => [.v (.int .u8 c.toNat)]) .none) : Runs P o a w (fun w' => fenv w0 D Dp w' G R st.rw) v := by
  obtain ⟨l, h1, h2, rfl⟩ := h
  have r1 := cPO_rel hx hF
  rw [h1] at r1
  have hr := run_bytes_of_string (P := P) w s t e ⟨l.toArray⟩ hs ht he
  rw [str_size] at hr
  have hge := grownCap_ge w l.length 0 e
  have hcm := grownCap_le_maxLen w l.length 0 e (by simp only [maxLen]; omega)
  generalize grownCap w l.length 0 e = cap at *
  have hb : Below w.heap.size w (w.drew.alloc (.cells (bytesRow ⟨l.toArray⟩ cap) e ((bytesRow ⟨l.toArray⟩ cap).size, (bytesRow ⟨l.toArray⟩ cap).size + 1))) := ((Below.refl _ _).drew).alloc (Nat.le_refl _) _
  refine ⟨.slice (some ⟨w.heap.size, 0, none⟩) l.length cap, _, by simp only [execOp, ho, r1.inv_v, Sem.run_bind, hr, Result.andThen_ok, Sem.run_pure], hb, ?_⟩
  have hlen : l.length = (l.map fun c => [PV.v (.int .u8 c.toNat)]).length := by simp
  rw [hlen]
  refine .sl _ _ _ _ _ _ (l.map bV) (fun e he => by simp at he; obtain ⟨c, _, rfl⟩ := he; rfl) (by rw [flat_sing]; simp) (fun j q u hq hu => ?_) (map_bV_one l) (by simpa using hge) hcm (fun h => by cases h) (fun ad h => ?_) (fun hne => ?_) trivial
  · rw [flat_sing, List.getElem?_map, Option.map_eq_some_iff] at hq
    obtain ⟨c, hc, rfl⟩ := hq
    rw [List.getElem?_map, hc] at hu
    simp at hu; subst hu
    exact .v _ _
  · simp at h; subst h
    exact fun _ => ⟨rfl, by show w.heap.size < (w.heap.push _).size; simp⟩
  · refine ⟨w.heap.size, 0, rfl, fresh_dom hF.hB.size (by simp) hF.glt hF.rlt _, fun j x hx => ?_⟩
    show World.cell? (World.alloc _ _) ⟨w.drew.heap.size, 0 + j, none⟩ = _
    rw [cell_of_row _ _ _ _ e _ (heap_alloc_new w.drew _)]
    rw [List.getElem?_map, Option.map_eq_some_iff] at hx
    obtain ⟨c, hc, rfl⟩ := hx
    have hj := (List.getElem?_eq_some_iff.1 hc).1
    simp only [bytesRow]
    rw [Array.getElem?_append_left (by simpa using hj)]
    simp [bV, hc]
end
end Go.Proofs.Ytdkancgcefklfaa
