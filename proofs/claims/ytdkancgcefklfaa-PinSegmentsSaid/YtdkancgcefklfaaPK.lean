/-
  What slices.Insert does to memory: laws of no program. A row of elements of several cells; one element that is put in.
-/
import Derived.Test.YtdkancgcefklfaaPJ
import Derived.Lib.Overlaps
import Derived.Lib.AppendZerosOnto
import Derived.Lib.JoinLaws
import Derived.Shelf.RegionOpenPlain
import Derived.WalkKit
import Derived.Lib.Walk
import Derived.Lib.SliceRun
import Derived.Laws.IdiomCopy
namespace Go.Proofs.Ytdkancgcefklfaa
open Go.RowKit

/-- nothing has turned but block g; new blocks may have come -/
structure Sm (g : Nat) (w w' : World) : Prop where
  os : w'.os = w.os
  tape : w'.tape = w.tape
  output : w'.output = w.output
  size : w.heap.size ≤ w'.heap.size
  block : ∀ k, k < w.heap.size → k ≠ g → w'.heap[k]? = w.heap[k]?
  self : ∀ cs t, w.heap[g]? = some (.cells cs t (0, 0)) → ∃ cs', w'.heap[g]? = some (.cells cs' t (0, 0)) ∧ cs'.size = cs.size
theorem Sm.refl (g : Nat) (w : World) : Sm g w w := ⟨rfl, rfl, rfl, Nat.le_refl _, fun _ _ _ => rfl, fun _ _ h => ⟨_, h, rfl⟩⟩
theorem Sm.drew {g : Nat} {w w' : World} (h : Sm g w w') : Sm g w w'.drew := ⟨h.os, h.tape, h.output, h.size, h.block, h.self⟩
theorem setRow_other {w : World} {g k : Nat} {cs : Array Value} (h : k ≠ g) : (w.setRow g cs).heap[k]? = w.heap[k]? := by
  unfold World.setRow
  simp only [Array.getElem?_modify]
  rw [if_neg (fun e => h e.symm)]
theorem setRow_size {w : World} {g : Nat} {cs : Array Value} : (w.setRow g cs).heap.size = w.heap.size := by
  unfold World.setRow; simp
theorem Sm.setRow {g g' : Nat} {w w' : World} {cs : Array Value} (h : Sm g w w') (hgl : g < w.heap.size) (hg : w.heap.size ≤ g') : Sm g w (w'.setRow g' cs) :=
  ⟨h.os, h.tape, h.output, by rw [setRow_size]; exact h.size, fun k h1 h2 => by rw [setRow_other (by omega)]; exact h.block k h1 h2, fun cs t h1 => by
    rw [setRow_other (by omega)]; exact h.self cs t h1⟩
theorem Sm.setSelf {g : Nat} {w w' : World} {old cs : Array Value} {t : TypeId} (h : Sm g w w') (hh : w'.heap[g]? = some (.cells old t (0, 0))) (hs : cs.size = old.size) : Sm g w (w'.setRow g cs) :=
  ⟨h.os, h.tape, h.output, by rw [setRow_size]; exact h.size, fun k h1 h2 => by rw [setRow_other h2]; exact h.block k h1 h2, fun cs1 t1 h1 => by
    obtain ⟨cs2, h3, h4⟩ := h.self cs1 t1 h1
    rw [hh] at h3
    simp only [Option.some.injEq, Obj.cells.injEq] at h3
    obtain ⟨rfl, rfl, _⟩ := h3
    exact ⟨cs, setRow_heap _ _ _ _ _ _ hh, by rw [hs, h4]⟩⟩
theorem Sm.alloc {g : Nat} {w w' : World} {o : Obj} (h : Sm g w w') (hgl : g < w.heap.size) : Sm g w (w'.alloc o) :=
  ⟨h.os, h.tape, h.output, by have := h.size; show w.heap.size ≤ (w'.heap.push o).size; rw [Array.size_push]; omega, fun k h1 h2 => by
    have := h.size
    show (w'.heap.push o)[k]? = _
    rw [Array.getElem?_push_lt (by omega), ← Array.getElem?_eq_getElem (by omega)]; exact h.block k h1 h2, fun cs t h1 => by
    have := h.size
    show ∃ cs', (w'.heap.push o)[g]? = _ ∧ _
    rw [Array.getElem?_push_lt (by omega), ← Array.getElem?_eq_getElem (by omega)]; exact h.self cs t h1⟩
theorem setCells_row {P : Program} {w : World} {g o : Nat} {cur vs : List Value} {t : TypeId} (hh : w.heap[g]? = some (.cells cur.toArray t (0, 0))) (hl : o + vs.length ≤ cur.length) (h1 : ∀ v ∈ vs, v.oneCell' = true) :
    w.setCells g o vs = w.setRow g (setAtV cur o vs).toArray := by
  have h2 := run_storeCells_at (P := P) g o t vs 0 cur.toArray w hh (by simpa using hl) h1
  have h3 := run_storeCells_cells (P := P) g o vs 0 w (fun j hj => by
    simp only [World.cell?, Nat.add_zero, hh]
    rw [List.getElem?_toArray, List.getElem?_eq_getElem (by omega)]; rfl) (fun j hj => by simp [World.frozen?, hh]) h1
  simp only [Nat.add_zero] at h2 h3
  rw [h3] at h2
  injection h2 with _ h4
theorem run_copy_seg {P : Program} (W : World) {dT sT ty e : TypeId} {i : TypeInfo} (ht : P.underlying dT = some (.slice e)) (hi : P.info? e = some i) {g off dLen dCap k sLen : Nat} {cur cs : List Value} {t : TypeId}
    (hh : W.heap[g]? = some (.cells cur.toArray t (0, 0))) {src : Value} (hl : (Builtin.lenOf src).run P W = .ok sLen W) (hk : min sLen dLen = k) (hf : (Builtin.firstCells i.size k src).run P W = .ok cs.toArray W)
    (hcl : off + cs.length ≤ cur.length) (h1 : ∀ v ∈ cs, v.oneCell' = true) :
    (Builtin.copy_ #[dT, sT] ty #[.slice (some ⟨g, off, none⟩) dLen dCap, src]).run P W = .ok (.int .i64 k) (W.setRow g (setAtV cur off cs).toArray) := by
  subst hk
  have hst := run_storeCells_at (P := P) g off t cs 0 cur.toArray W hh (by simpa using hcl) h1
  rw [Nat.add_zero] at hst
  have hst' : (storeCells (⟨g, off, none⟩ : Addr) cs).run P W = .ok () (W.setRow g (setAtV cur off cs).toArray) := hst
  have hm : Nat.min sLen dLen = min sLen dLen := rfl
  simp [Builtin.copy_, run_underlying ht, hl, sizeOf, typeInfo, hi, hf, hst', goInt]
theorem addr_at {g o j : Nat} : (⟨g, o, none⟩ : Addr).add j = ⟨g, o + j, none⟩ := by unfold Addr.add; split <;> simp_all
/-- cells of a block, as the first elements of a slice -/
theorem firstCells_row {P : Program} {W : World} {g off len cap sz k : Nat} {cur : List Value} {t : TypeId} (hh : W.heap[g]? = some (.cells cur.toArray t (0, 0))) (hl : off + k * sz ≤ cur.length) :
    (Builtin.firstCells sz k (.slice (some ⟨g, off, none⟩) len cap)).run P W = .ok ((cur.drop off).take (k * sz)).toArray W := by
  refine run_firstCells_some W sz k _ len cap _ (by rw [List.length_take, List.length_drop]; omega) fun j u hu => ?_
  rw [List.getElem?_take] at hu
  split at hu
  · rw [List.getElem?_drop] at hu
    rw [addr_at]
    simp only [World.cell?, hh]
    rw [List.getElem?_toArray]; exact hu
  · cases hu
theorem run_overlaps_row {P : Program} (w : World) {tS tR e : TypeId} (ht : P.underlying tS = some (.slice e)) {i : TypeInfo} (hi : P.info? e = some i) {a b : Addr} {la ca lb cb : Nat} (hne : a.block ≠ b.block) {cur : List Value} {t : TypeId} (hh : w.heap[b.block]? = some (.cells cur.toArray t (0, 0))) (hcur : cur ≠ [])
    {v : Value} (ha : w.cell? a = some v) : (Extern.SlicesOverlaps.overlaps #[tS, tS] #[tR] #[.slice (some a) la ca, .slice (some b) lb cb]).run P w = .ok (.bool false) w := by
  have hnb : (a.block != b.block) = true := by simpa using hne
  have hnb' : (a.block == b.block) = false := by simpa using hne
  have hfb : w.frozen? b = false := by simp [World.frozen?, hh]
  have hfe : w.frozen? { block := b.block, off := cur.length } = false := by simp [World.frozen?, hh]
  have hsb : w.shape? b.block = some (t, cur.length) := by simp [World.shape?, hh]
  obtain ⟨kb, hkb⟩ : ∃ k, cur.length = k + 1 := ⟨cur.length - 1, by have := List.length_pos_iff.2 hcur; omega⟩
  rw [hkb] at hsb hfe
  obtain ⟨tA, ka, hsa⟩ : ∃ tA k, w.shape? a.block = some (tA, k + 1) := by
    unfold World.cell? at ha
    split at ha
    · rename_i cs el fz hb
      have : a.off < cs.size := by
        split at ha
        · cases ha
        · exact (Array.getElem?_eq_some_iff.1 ha).1
      exact ⟨el, cs.size - 1, by unfold World.shape?; rw [hb]; simp; omega⟩
    · cases ha
  have hz : ∀ w, (Go.sizeOf e).run P w = .ok i.size w := fun w => by simp [sizeOf, typeInfo, hi]
  change Sem.run P (α := Value) (do
    let some t := (#[tS, tS] : Array TypeId)[0]? | stuck "slices.overlaps: no parameter types"
    let .slice elem ← underlying t | stuck "slices.overlaps: slice type expected"
    let size ← sizeOf elem
    match (some a : Option Addr), (some b : Option Addr) with
    | some a, some b =>
      if la = 0 ∨ lb = 0 ∨ size = 0 then pure (Value.bool false)
      else if a.block != b.block && (← frozen a) && (← frozen b) then unsupported .addressObserved
      else do
        if a.block != b.block then do
          noView a; noView b
          if ← mayBeOne a b then return Value.bool ((← choose (.extern "sameAddr.stringBytes" 2)) == 1)
        pure (Value.bool (a.block == b.block && a.off < b.off + lb * size && b.off < a.off + la * size))
    | _, _ => pure (Value.bool false)) w = _
  by_cases h0 : la = 0 ∨ lb = 0 ∨ i.size = 0
  · simp [run_underlying ht, hz, h0]
  · cases h1 : w.frozen? a <;> cases h2 : w.frozen? { block := a.block, off := ka + 1 } <;>
      simp [run_underlying ht, hz, h0, hnb, hnb', frozen, noView, viewAt, mayBeOne, stringish, shape, Sem.run, hsa, hsb, hfb, hfe, h1, h2]

theorem info_of {P : Program} {e : TypeId} {sz by' : Nat} (h : (P.info? e).any (fun i => i.size == sz && i.bytes == by' && i.zero.any (fun z => z.cells.size == sz && z.cells.toList.all (·.oneCell'))) = true) :
    ∃ i z, P.info? e = some i ∧ i.zero = some z ∧ i.size = sz ∧ i.bytes = by' ∧ z.cells.size = sz ∧ z.cells.toList.all (·.oneCell') = true := by
  cases hi : P.info? e with
  | none => rw [hi] at h; cases h
  | some i =>
    rw [hi] at h
    simp only [Option.any_some, Bool.and_eq_true, beq_iff_eq] at h
    obtain ⟨⟨h1, h2⟩, h3⟩ := h
    cases hz : i.zero with
    | none => rw [hz] at h3; cases h3
    | some z =>
      rw [hz] at h3
      simp only [Option.any_some, Bool.and_eq_true, beq_iff_eq] at h3
      exact ⟨i, z, rfl, hz, h1, h2, h3.1, h3.2⟩
/-- a copy whose run is known -/
theorem wp_copy2 {P : Program} (w : World) {o : Oper} {a : Act} {K : Act → World → Prop} {Q : Exit → Act → World → Prop} (d s : Operand) (t t' : TypeId)
    (ho : o.op = .call { callee := .builtin .copy, args := #[d, s], argTypes := #[t, t'] }) (v u : Value) (hd : a.eval d = v) (hs : a.eval s = u) {v' : Value} {w' : World}
    (hr : (Builtin.copy_ #[t, t'] o.type #[v, u]).run P w = .ok v' w') (h : K (a.put o.dst v') w') : o.wp P a w K Q := by
  unfold Oper.wp execOp
  simp only [ho, resolve, invoke, builtin, Sem.run_bind, Sem.run_pure, Result.andThen_ok, List.map_toArray, List.map_cons, List.map_nil, hd, hs, hr]
  exact h
theorem wpList_copy2 {P : Program} (w : World) {ops : Array Oper} {rest : List Oper} {o : Oper} {a : Act} {Q : Exit → Act → World → Prop} (hgd : o.guard = none) (d s : Operand) (t t' : TypeId)
    (ho : o.op = .call { callee := .builtin .copy, args := #[d, s], argTypes := #[t, t'] }) (v u : Value) (hd : a.eval d = v) (hs : a.eval s = u) {v' : Value} {w' : World}
    (hr : (Builtin.copy_ #[t, t'] o.type #[v, u]).run P w = .ok v' w') (h : wpList P ops Q rest (a.put o.dst v') w') : wpList P ops Q (o :: rest) a w :=
  wpList_plain hgd fun _ hK => wp_copy2 w d s t t' ho v u hd hs hr (hK _ _ h)
theorem step_copy2 {P : Program} {ops : Array Oper} {o : Oper} {a : Act} {w : World} {K : Act → World → Prop} {Q : Exit → Act → World → Prop} {E : Prop}
    (hg : o.guard = none) (d s : Operand) (t t' : TypeId) (ho : o.op = .call { callee := .builtin .copy, args := #[d, s], argTypes := #[t, t'] }) (v u : Value) (hd : a.eval d = v) (hs : a.eval s = u) {v' : Value} {w' : World}
    (hr : (Builtin.copy_ #[t, t'] o.type #[v, u]).run P w = .ok v' w') (hK : K (a.put o.dst v') w') : if Region.wanted o (yielded ops a.tmps) = true then o.wp P a w K Q else E := by
  rw [if_pos (by simp [Region.wanted, hg])]
  exact wp_copy2 w d s t t' ho v u hd hs hr hK
/-- what has become of a row and its slice: one element was put in at i -/
def InsPost (sz g n : Nat) (Ls : List Value) (w : World) (e : Ending) (w' : World) : Prop :=
  ∃ g' c' us vs t, e = .returned (.slice (some ⟨g', 0, none⟩) (n + 1) c') ∧ w'.heap[g']? = some (.cells (List.toArray (us ++ vs)) t (0, 0)) ∧ us = Ls ∧ n + 1 ≤ c' ∧ c' ≤ maxLen ∧ c' * sz ≤ (us ++ vs).length ∧ (g' = g ∨ g' = w.heap.size) ∧ Sm g w w'
theorem setAtV_len {cs new : List Value} {off : Nat} (h : off + new.length ≤ cs.length) : (setAtV cs off new).length = cs.length := by
  unfold setAtV; simp only [List.length_append, List.length_take, List.length_drop]; omega
theorem ins_list {cur news : List Value} {i n sz : Nat} (hi : i < n) (hl : (n + 1) * sz ≤ cur.length) (hnl : news.length = sz) :
    setAtV (setAtV cur ((i + 1) * sz) ((cur.take (n * sz)).drop (i * sz))) (i * sz) news = (cur.take (i * sz) ++ news ++ (cur.take (n * sz)).drop (i * sz)) ++ cur.drop ((n + 1) * sz) := by
  have h1 : i * sz ≤ n * sz := Nat.mul_le_mul_right _ (by omega)
  have h2 : (n + 1) * sz = n * sz + sz := by rw [Nat.add_mul]; omega
  have h3 : (i + 1) * sz = i * sz + sz := by rw [Nat.add_mul]; omega
  rw [h2] at hl ⊢
  rw [h3]
  generalize i * sz = a at *
  generalize n * sz = b at *
  have hT : ((cur.take b).drop a).length = b - a := by rw [List.length_drop, List.length_take]; omega
  unfold setAtV
  rw [hT, hnl, List.take_append_of_le_length (by rw [List.length_append, List.length_take]; omega), List.take_append_of_le_length (by rw [List.length_take]; omega), List.take_take, Nat.min_eq_left (by omega)]
  rw [List.append_assoc (cur.take (a + sz)), List.drop_append_of_le_length (by rw [List.length_take]; omega), List.drop_eq_nil_of_le (by rw [List.length_take]; omega), List.nil_append]
  rw [show a + sz + (b - a) = b + sz by omega]
  simp only [List.append_assoc]
theorem ins_list2 {X Z news T : List Value} {k : Nat} (hX : X.length = k) (hl : k + news.length + T.length ≤ (X ++ Z).length) : ∃ vs, setAtV (setAtV (X ++ Z) k news) (k + news.length) T = (X ++ news ++ T) ++ vs := by
  subst hX
  have h1 : setAtV (X ++ Z) X.length news = X ++ news ++ Z.drop news.length := by
    unfold setAtV
    rw [List.take_left, List.drop_append]
    simp
  rw [h1]
  refine ⟨(Z.drop news.length).drop T.length, ?_⟩
  unfold setAtV
  rw [show X.length + news.length = (X ++ news).length by simp, List.take_left, List.drop_append]
  simp
/-- f puts one element in, at every row -/
structure InsOk (P : Program) (f : FuncId) (sz by' : Nat) : Prop where
  pos : 0 < sz
  calls : ∀ (w : World) (g n c i : Nat) (cur news : List Value) (t : TypeId) (A : Addr) (vc : Nat), w.heap[g]? = some (.cells cur.toArray t (0, 0)) → i ≤ n → n ≤ c → c * sz ≤ cur.length → c ≤ maxLen → (n + 1) * by' ≤ 140737488355328 →
    (∀ v ∈ cur.take (n * sz), v.oneCell' = true) → A.spot = none → A.block < w.heap.size → A.block ≠ g → news.length = sz → (∀ v ∈ news, v.oneCell' = true) → (∀ (j : Nat) v, news[j]? = some v → w.cell? (A.add j) = some v) →
    Calls P f #[.slice (some ⟨g, 0, none⟩) n c, .int .i64 i, .slice (some A) 1 vc] w (InsPost sz g n (cur.take (i * sz) ++ news ++ (cur.take (n * sz)).drop (i * sz)) w)
/-- the list with one element put in -/
def insL {α : Type} (l : List α) (n i : Int) (x : α) : List α := l.take i.toNat ++ x :: (l.take n.toNat).drop i.toNat
theorem rel_plain {E : Env} {p : PV} {u : Value} (hp : plain p = true) (h : Rel E p u) : Rel E.sh p u := by
  rcases plain_iff hp with ⟨x, rfl⟩ | ⟨s, es, rfl⟩
  · rw [h.inv_v]; exact .v _ _
  · obtain ⟨A, cap, us, rfl, hR, h1, hnc, hcm, hA, hA0, hm, hok, hsz⟩ := h.inv_sl
    exact .sl _ _ _ _ _ _ us hsz hR.1 hR.2 h1 hnc hcm hA hA0 hm trivial
theorem relL_plain {E : Env} {ps : List PV} {us : List Value} (hp : ∀ p ∈ ps, plain p = true) (h : RelL E ps us) : RelL E.sh ps us :=
  ⟨h.1, fun j p u a b => rel_plain (hp p (List.mem_of_getElem? a)) (h.2 j p u a b)⟩
theorem relL_take {E : Env} {ps : List PV} {us : List Value} (h : RelL E ps us) (k : Nat) : RelL E (ps.take k) (us.take k) := h.take k
theorem nat_of_int {a b M : Nat} (h : ((a : Int) + 1) * (b : Int) ≤ (M : Int)) : (a + 1) * b ≤ M := by exact_mod_cast h
theorem pcalls_ins {P : Program} {f : FuncId} {sz by' : Nat} (h : InsOk P f sz by') {α : Type} {c : α → List PV} [hcz : CSz c sz] [hcs : CSh c] {l : List α} {n i : Int} {x : α} {o : Own} (h0 : 0 ≤ i) (h1 : i ≤ n) (h2 : n ≤ l.length) (h3 : (n + 1) * by' ≤ 140737488355328) :
    PCallsB P f [0] [fl c l] [sbv 0 sz 0 n none, .v (.int .i64 i), .sl sz (mp c [x]) o] (sbv 0 sz 0 (n + 1) none) [fl c (insL l n i x)] := by
  intro w D Dp G vs hD hDp hG hbx hR
  obtain ⟨n', rfl⟩ : ∃ n' : Nat, n = n' := ⟨n.toNat, by omega⟩
  obtain ⟨i', rfl⟩ : ∃ i' : Nat, i = i' := ⟨i.toNat, by omega⟩
  have hlen := hbx.len
  obtain ⟨g, rfl⟩ : ∃ g, G = [g] := by
    match G, hlen with
    | [g], _ => exact ⟨g, rfl⟩
  obtain ⟨u0, hu0, r0⟩ := hR.get (j := 0) rfl
  obtain ⟨u1, hu1, r1⟩ := hR.get (j := 1) rfl
  obtain ⟨u2, hu2, r2⟩ := hR.get (j := 2) rfl
  have hvl := hR.1
  obtain rfl : vs = [u0, u1, u2] := by
    match vs, hvl with
    | [a, b, c], _ => simp at hu0 hu1 hu2; subst hu0 hu1 hu2; rfl
  obtain ⟨g1, cc, rfl, hg1, hsb⟩ := r0.inv_sb
  simp [envB] at hg1; subst hg1
  rw [r1.inv_v]
  obtain ⟨A, vc, news, rfl, hRn, hn1, hnc, hcm, hA, hA0, hm, _, _⟩ := r2.inv_sl
  obtain ⟨us, ex, t, hh, hRl, hu1c⟩ := hbx.bx 0 g _ rfl rfl
  have hh : w.heap[g]? = some (.cells (us ++ ex).toArray t (0, 0)) := hh
  obtain ⟨_, k2, k3, cs, t2, k4, k5⟩ := hsb
  have k4 : w.heap[g]? = some (.cells cs t2 (0, 0)) := k4
  have k2 : n' ≤ cc := k2
  have k5 : 0 + cc * sz ≤ cs.size := by simpa using k5
  rw [hh] at k4
  simp only [Option.some.injEq, Obj.cells.injEq] at k4
  obtain ⟨rfl, rfl, _⟩ := k4
  have hcx : (c x).length = sz := hcz.len x
  have hpos := h.pos
  have hnl : news.length = sz := by rw [hRn.1]; simp [mp, hcx]
  obtain ⟨b, off, rfl, hrd, hcell⟩ := hm (by rintro rfl; simp at hnl; omega)
  have hrd2 : D b (off + news.length) ∨ Dp b (off + news.length) := by
    cases o with
    | lent => exact hrd
    | none => exact .inl hrd
    | full => exact .inl hrd
    | id k => exact .inl hrd
  have hbg : b ≠ g := fun e => by subst e; exact Or.elim hrd2 (hG b (by simp) _).1 (hG b (by simp) _).2
  have hbig : (n' + 1) * by' ≤ 140737488355328 := nat_of_int h3
  have e0 : Int.toNat 0 * sz = 0 := Nat.zero_mul sz
  rw [e0]
  have hul : us.length = l.length * sz := by rw [hRl.1, fl_length]
  have hnk : n' * sz ≤ us.length := by rw [hul]; exact Nat.mul_le_mul_right _ (by omega)
  have hik : i' * sz ≤ n' * sz := Nat.mul_le_mul_right _ (by omega)
  have htk : ∀ k, k ≤ n' * sz → (us ++ ex).take k = us.take k := fun k hk => List.take_append_of_le_length (by omega)
  show Calls P f #[.slice (some ⟨g, 0, none⟩) n' cc, .int .i64 i', .slice (some ⟨b, off, none⟩) 1 vc] w _
  refine (h.calls w g n' cc i' (us ++ ex) news t ⟨b, off, none⟩ vc hh (by omega) k2 (by simpa using k5) k3 hbig (fun v hv => ?_) rfl ?_ hbg hnl hn1 (fun j v hj => ?_)).mono ?_
  · rw [htk _ (Nat.le_refl _)] at hv
    exact hu1c v (List.mem_of_mem_take hv)
  · exact (hA0 _ rfl (by simp at hnc; omega)).2
  · rw [addr_at]; exact hcell j v hj
  · rintro e w' ⟨g', c', us', vs', t', rfl, hh', rfl, c1, c2, c3, hg', hS⟩
    rw [htk _ hik, htk _ (Nat.le_refl _)] at hh' c3
    have hgl : g < w.heap.size := (Array.getElem?_eq_some_iff.1 hh).1
    have hle : (envB w D Dp [g]).sh.Le (envB w' (sinceB w w' D [g']) (fun _ _ => False) [g']) := by
      have hd : ∀ b e, D b e → sinceB w w' D [g'] b e := fun b e hb => ⟨.inl ⟨hD.lt b e hb, hb⟩, by
        simp only [List.mem_singleton]
        rintro rfl
        rcases hg' with rfl | rfl
        · exact (hG b (by simp) e).1 hb
        · exact absurd (hD.lt _ _ hb) (by omega)⟩
      refine ⟨hd, fun b e hb => .inl (hd b e hb), fun b e o hb _ => ?_, hS.size, fun _ _ h => (by cases h), fun _ _ _ _ _ h => h.elim, fun _ _ _ _ h => (by cases h)⟩
      have hb : D b e := hb.elim id id
      have := hS.block b (hD.lt b e hb) (fun e' => (hG b (by simp [e']) e).1 hb)
      show w'.cell? _ = w.cell? _
      simp only [World.cell?, this]
    have hRp := relL_plain (fun p hp => by
      simp only [fl, mp, List.mem_flatten, List.mem_map] at hp
      obtain ⟨_, ⟨y, _, rfl⟩, hy⟩ := hp
      exact hcs.pl y p hy) hRl
    refine ⟨_, [g'], [], rfl, rfl, fun j g2 hj => ?_, fun g2 h => (by cases h), ⟨rfl, fun j g2 cs2 hj hc2 => ?_, fun j k g2 hj hk => ?_⟩, ?_, ⟨hS.os, hS.tape, hS.output, hS.size, fun k hk hk2 => hS.block k hk (by simpa using hk2), fun g2 cs2 t2 hg2 hc2 => ?_⟩⟩
    · cases j with
      | zero =>
        simp at hj; subst hj
        rcases hg' with rfl | rfl
        · exact .inl rfl
        · exact .inr ⟨by simp, Nat.le_refl _⟩
      | succ j => simp at hj
    · cases j with
      | succ j => simp at hj
      | zero =>
        simp at hj hc2; subst hj hc2
        refine ⟨_, vs', t', hh', ?_, fun v hv => ?_⟩
        · have e1 : fl c (insL l n' i' x) = (fl c l).take (i' * sz) ++ c x ++ ((fl c l).take (n' * sz)).drop (i' * sz) := by
            simp only [insL, Int.toNat_natCast, fl_append, fl_cons, fl_take, fl_drop, List.append_assoc]
          rw [e1]
          have hRn' : RelL (envB w D Dp [g]).sh (c x) news := by simpa [mp] using hRn
          exact (((hRp.take _).app hRn').app ((hRp.take _).drop _)).mono hle
        · simp only [List.mem_append] at hv
          rcases hv with (hv | hv) | hv
          · exact hu1c v (List.mem_of_mem_take hv)
          · exact hn1 v hv
          · exact hu1c v (List.mem_of_mem_take (List.mem_of_mem_drop hv))
    · cases j <;> cases k <;> simp at hj hk ⊢
    · have : sbv 0 sz 0 ((n' : Int) + 1) none = .sb 0 sz 0 (n' + 1) none := by
        unfold sbv
        simp
      rw [this]
      exact .sb _ 0 sz 0 (n' + 1) none g' c' rfl ⟨fun k h => (by cases h), c1, c2, _, t', hh', by simpa using c3⟩
    · simp at hg2; subst hg2
      exact hS.self cs2 t2 hc2
/-- a call that uses up one box, which holds a list -/
theorem runR_callmU {P : Program} {α : Type} {c : α → List PV} [CSh c] {st : St} {l : List GI} {K : St → Prop} {d : Slot} {n0 f b : Nat} {xs : List PO} {args' : List PV} {r : PV} (L L' : List α) (h : PCallsB P f [0] [fl c L] args' r [fl c L']) (hb : st.bx[b]? = some (fl c L)) (hn : n0 ≤ b)
    (ha : lessL (xs.map fun x => mapS (mapC [b] (shareC st.bx)) (st.ev x)) args') (hr : runR P l ⟨(st.s.forg [b]).put d (mapV (renC (back [b] st.bx.length)) r), (st.bx.map fun cs => cs.map (forgC [b])).set b (fl c L'), st.rw⟩ K) : runR P (⟨none, .callm d n0 f xs⟩ :: l) st K := by
  have hlt := (List.getElem?_eq_some_iff.1 hb).1
  have hg : st.bx.getD b [] = fl c L := by rw [List.getD_eq_getElem?_getD, hb]; rfl
  refine runR_callm [b] [0] (h.w ha) (by simp) (by simpa using hlt) (by simp) (by simpa using hn) ?_ rfl ?_
  · simp only [List.map_cons, List.map_nil, hg, fl_mapC]
  · have e : (fl c L').map (renC (back [b] st.bx.length)) = fl c L' := fl_renC _ _
    simp only [List.map_nil, List.map_cons, setBx_cons, setBx_nil, e, List.append_nil]
    exact hr
end Go.Proofs.Ytdkancgcefklfaa
