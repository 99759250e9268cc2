/-
  Operations that only make a value, continued: loads, parts, cuts, lengths, literals.
-/
import Derived.Test.YtdkancgcefklfaaP4
import Derived.Laws.Cells
namespace Go.Proofs.Ytdkancgcefklfaa
open Go.RowKit

def isAgB (P : Program) (t : TypeId) : Option Bool := (P.underlying t).map fun d => match d with | .struct _ | .array _ _ => true | _ => false
section
variable {P : Program} {nt : Nat} {w0 : World} {G0 : List Nat} {D Dp : Nat → Nat → Prop} {G : List Nat} {R : List (Option Rec)} {st : St} {a : Act} {w : World} {v : PV} {o : Oper}

theorem run_isAgg {t : TypeId} {b : Bool} (h : isAgB P t = some b) : (isAgg t).run P w = .ok b w := by
  simp only [isAgB, Option.map_eq_some_iff] at h
  obtain ⟨d, h1, h2⟩ := h
  unfold isAgg
  rw [Sem.run_bind, run_underlying h1]
  cases d <;> simp_all
theorem run_loadAt {t : TypeId} {ag : Bool} {i : TypeInfo} (hag : isAgB P t = some ag) (hi : P.info? t = some i) (b off : Nat) (us : List Value) (hn : us.length = i.size)
    (hc : ∀ (j : Nat) x, us[j]? = some x → w.cell? ⟨b, off + j, none⟩ = some x) (u : Value) (hu : if ag then u = .agg us.toArray else us = [u]) : (Instr.loadAt t (.pointer (some ⟨b, off, none⟩))).run P w = .ok u w := by
  have hc' : ∀ (j : Nat) x, us[j]? = some x → w.cell? ((⟨b, off, none⟩ : Addr).add j) = some x := fun j x hx => by rw [addr_add]; exact hc j x hx
  have hl := run_loadCells_list (P := P) w ⟨b, off, none⟩ us hc'
  cases ag with
  | true =>
    simp only [if_true] at hu
    subst hu
    simp only [Instr.loadAt, Instr.sureAddr, loadVar, Sem.run_bind, Sem.run_pure, Result.andThen_ok, run_isAgg hag, if_true, sizeOf, typeInfo, run_program, hi, ← hn, hl]
  | false =>
    simp only [Bool.false_eq_true, if_false] at hu
    subst hu
    have := hc 0 u rfl
    simp only [Instr.loadAt, Instr.sureAddr, loadVar, Sem.run_bind, Sem.run_pure, Result.andThen_ok, run_isAgg hag, Bool.false_eq_true, if_false, run_load]
    rw [Nat.add_zero] at this
    simp [this]
theorem rel_loaded {E : Env} {cs : List PV} {us : List Value} {ag : Bool} (hR : RelL E cs us) (h1 : ∀ x ∈ us, x.oneCell' = true) {v : PV} (hv : if ag then v = .agg cs else cs = [v]) : ∃ u, (if ag then u = Value.agg us.toArray else us = [u]) ∧ Rel E v u := by
  cases ag with
  | true =>
    simp only [if_true] at hv
    subst hv
    exact ⟨_, rfl, .agg _ cs us hR.1 hR.2 h1⟩
  | false =>
    simp only [Bool.false_eq_true, if_false] at hv
    subst hv
    have hl := hR.1
    match us, hl with
    | [u], _ => exact ⟨u, rfl, hR.2 0 v u rfl rfl⟩
theorem app_get {us vs : List Value} {j : Nat} {x : Value} (h : us[j]? = some x) : (us ++ vs).toArray[j]? = some x := by
  rw [List.getElem?_toArray, List.getElem?_append_left (List.getElem?_eq_some_iff.1 h).1]; exact h
theorem ex_ld {t : TypeId} {ag : Bool} {i : TypeInfo} {x : Operand} {p : PO} (ho : o.op = .load t x) (hx : cPO x = some p) (hag : isAgB P t = some ag) (hi : P.info? t = some i) (hF : FI nt w0 G0 D Dp G R st a w)
    (h : (∃ f cs, i.size = 1 ∧ ag = false ∧ st.ev p = .fp f cs ∧ v = .fn f cs) ∨ ∃ cs, ((∃ ds, st.ev p = .pt ds ∧ cs = ds.take i.size) ∨ (∃ b off, st.ev p = .pb b off ∧ cs = ((st.bx.getD b []).drop off).take i.size)) ∧ cs.length = i.size ∧ (if ag then v = .agg cs else cs = [v])) : Runs P o a w (fun w' => fenv w0 D Dp w' G R st.rw) v := by
  rcases h with ⟨f, cs, h1, rfl, h2, rfl⟩ | ⟨cs, h1, h2, h3⟩
  · have r1 := cPO_rel hx hF
    rw [h2] at r1
    obtain ⟨b, o', us, hu, hR, hb, hd, hc⟩ := r1.inv_fp
    refine runs_same (u := .func (.func f) #[] us.toArray) ?_ (.fn _ _ _ us hR.1 hR.2)
    have := run_loadAt (P := P) (w := w) hag hi b o' [.func (.func f) #[] us.toArray] (by simp [h1]) (fun j x hx => by
      cases j with
      | zero => simp at hx; subst hx; exact hc
      | succ j => simp at hx) (.func (.func f) #[] us.toArray) (by simp)
    simp only [execOp, ho, hu, Sem.run_bind, this, Result.andThen_ok, Sem.run_pure]
  have r1 := cPO_rel hx hF
  have fin : ∀ b off us, a.eval x = .pointer (some ⟨b, off, none⟩) → RelL (fenv w0 D Dp w G R st.rw) cs us → (∀ x ∈ us, x.oneCell' = true) → (∀ (j : Nat) x, us[j]? = some x → w.cell? ⟨b, off + j, none⟩ = some x) → Runs P o a w (fun w' => fenv w0 D Dp w' G R st.rw) v := by
    intro b off us he hR h1c hc
    obtain ⟨u, hu, hv⟩ := rel_loaded (ag := ag) hR h1c h3
    refine runs_same (u := u) ?_ hv
    simp only [execOp, ho, he, Sem.run_bind, run_loadAt hag hi b off us (by rw [hR.1, h2]) hc u hu, Result.andThen_ok, Sem.run_pure]
  rcases h1 with ⟨ds, h1, rfl⟩ | ⟨b, off, h1, rfl⟩
  · rw [h1] at r1
    obtain ⟨b, off, us, e, hR, h1c, hm⟩ := r1.inv_pt
    refine fin b off (us.take i.size) e ((hR.take i.size).mono fenv_sh_le) (fun x hx => h1c x (List.mem_of_mem_take hx)) fun j x hx => ?_
    rw [List.getElem?_take] at hx
    split at hx
    · exact (hm (by rintro rfl; simp at hx)).2 j x hx
    · cases hx
  · rw [h1] at r1
    obtain ⟨g, e, hg⟩ := r1.inv_pb
    have hgl : b < st.bx.length := by
      have := (List.getElem?_eq_some_iff.1 hg).1
      rw [hF.bxn] at this; exact this
    obtain ⟨us, vs, ty, hh, hR, h1c⟩ := hF.bxs.bx b g _ hg (List.getElem?_eq_getElem hgl)
    have hgd : st.bx.getD b [] = st.bx[b] := by rw [List.getD_eq_getElem?_getD, List.getElem?_eq_getElem hgl]; rfl
    rw [← hgd] at hR
    refine fin g off ((us.drop off).take i.size) e ((hR.drop off).take i.size) (fun x hx => h1c x (List.mem_of_mem_drop (List.mem_of_mem_take hx))) fun j x hx => ?_
    rw [List.getElem?_take] at hx
    split at hx
    · rw [List.getElem?_drop] at hx
      rw [cell_of_row w g _ _ ty (0, 0) hh]
      exact app_get hx
    · cases hx
theorem ex_fld {t : TypeId} {x : Operand} {f : Nat} {p : PO} {fs : Array Field} {fd : Field} {ag : Bool} {i : TypeInfo} (ho : o.op = .field t x f) (hx : cPO x = some p) (hs : P.underlying t = some (.struct fs)) (hf : fs[f]? = some fd) (hag : isAgB P fd.type = some ag) (hi : P.info? fd.type = some i) (hF : FI nt w0 G0 D Dp G R st a w)
    (h : ∃ cs, st.ev p = .agg cs ∧ fd.offset + i.size ≤ cs.length ∧ (if ag then v = .agg ((cs.drop fd.offset).take i.size) else (cs.drop fd.offset).take i.size = [v])) : Runs P o a w (fun w' => fenv w0 D Dp w' G R st.rw) v := by
  obtain ⟨cs, h1, h2, h3⟩ := h
  have r1 := cPO_rel hx hF
  rw [h1] at r1
  obtain ⟨us, e, hR, h1c⟩ := r1.inv_agg
  have hR' := (hR.drop fd.offset).take i.size
  obtain ⟨u, hu, hv⟩ := rel_loaded (ag := ag) hR' (fun x hx => h1c x (List.mem_of_mem_drop (List.mem_of_mem_take hx))) h3
  refine runs_same (u := u) ?_ hv
  have hp : (part fd.type us.toArray fd.offset).run P w = .ok u w := by
    unfold part
    rw [Sem.run_bind, run_isAgg hag]
    cases ag with
    | true =>
      simp only [if_true] at hu
      subst hu
      simp [sizeOf, typeInfo, hi, List.extract_eq_take_drop]
    | false =>
      simp only [Bool.false_eq_true, if_false] at hu
      have h0 : us[fd.offset]? = some u := by
        have : ((us.drop fd.offset).take i.size)[0]? = some u := by rw [hu]; rfl
        rw [List.getElem?_take] at this
        split at this
        · rw [List.getElem?_drop] at this; simpa using this
        · cases this
      simp [h0]
  simp only [execOp, ho, e, Instr.field, Sem.run_bind, run_underlying hs, Result.andThen_ok, hf, asAgg, Sem.run_pure, hp]
theorem ex_ext {x : Operand} {k : Nat} {p : PO} (ho : o.op = .extract x k) (hx : cPO x = some p) (hF : FI nt w0 G0 D Dp G R st a w) (h : ∃ cs, st.ev p = .tup cs ∧ cs[k]? = some v) : Runs P o a w (fun w' => fenv w0 D Dp w' G R st.rw) v := by
  obtain ⟨cs, h1, h2⟩ := h
  have r1 := cPO_rel hx hF
  rw [h1] at r1
  obtain ⟨us, e, hR⟩ := r1.inv_tup
  obtain ⟨u, hu, hv⟩ := hR.get h2
  refine runs_same (u := u) ?_ hv
  simp [execOp, ho, e, Instr.extract, hu]
theorem ex_len {t e : TypeId} {x : Operand} {p : PO} (ho : o.op = .call { callee := .builtin .len, args := #[x], argTypes := #[t] }) (hx : cPO x = some p) (ht : P.underlying t = some (.slice e)) (hF : FI nt w0 G0 D Dp G R st a w)
    (h : (∃ s es ow, st.ev p = .sl s es ow ∧ v = .v (.int .i64 es.length)) ∨ (∃ b s off n c, st.ev p = .sb b s off n c ∧ v = .v (.int .i64 n)) ∨ (∃ f cs, st.ev p = .fs f cs ∧ v = .v (.int .i64 1))) : Runs P o a w (fun w' => fenv w0 D Dp w' G R st.rw) v := by
  have r1 := cPO_rel hx hF
  rcases h with ⟨s, es, ow, h1, rfl⟩ | ⟨b, s, off, n, c, h1, rfl⟩ | ⟨f, cs, h1, rfl⟩
  case inr.inr =>
    rw [h1] at r1
    obtain ⟨b, o', us, hu, _⟩ := r1.inv_fs
    refine runs_same (u := .int .i64 1) ?_ (.v _ _)
    simp [execOp, ho, hu, resolve, invoke, builtin, Builtin.len_, run_underlying ht, goInt]
  case inr.inl =>
    rw [h1] at r1
    obtain ⟨g, cc, hu, _, _⟩ := r1.inv_sb
    refine runs_same (u := .int .i64 n) ?_ (.v _ _)
    simp [execOp, ho, hu, resolve, invoke, builtin, Builtin.len_, run_underlying ht, goInt]
  rw [h1] at r1
  obtain ⟨A, cap, us, e, _⟩ := r1.inv_sl
  refine runs_same (u := .int .i64 es.length) ?_ (.v _ _)
  simp [execOp, ho, e, resolve, invoke, builtin, Builtin.len_, run_underlying ht, goInt]
theorem ex_cap {t e : TypeId} {x : Operand} {p : PO} (ho : o.op = .call { callee := .builtin .cap, args := #[x], argTypes := #[t] }) (hx : cPO x = some p) (ht : P.underlying t = some (.slice e)) (hF : FI nt w0 G0 D Dp G R st a w)
    (h : (∃ s es, st.ev p = .sl s es .full ∧ v = .v (.int .i64 es.length)) ∨ (∃ b s off n c, st.ev p = .sb b s off n (some c) ∧ v = .v (.int .i64 c))) : Runs P o a w (fun w' => fenv w0 D Dp w' G R st.rw) v := by
  have r1 := cPO_rel hx hF
  rcases h with ⟨s, es, h1, rfl⟩ | ⟨b, s, off, n, c, h1, rfl⟩
  · rw [h1] at r1
    obtain ⟨A, cap, us, e, _, _, _, _, _, _, _, hok, _⟩ := r1.inv_sl
    have hok : cap = es.length := hok
    refine runs_same (u := .int .i64 es.length) ?_ (.v _ _)
    simp [execOp, ho, e, resolve, invoke, builtin, Builtin.cap_, run_underlying ht, goInt, hok]
  · rw [h1] at r1
    obtain ⟨g, cc, hu, _, hs⟩ := r1.inv_sb
    have hc : cc = c := hs.1 c rfl
    refine runs_same (u := .int .i64 c) ?_ (.v _ _)
    simp [execOp, ho, hu, resolve, invoke, builtin, Builtin.cap_, run_underlying ht, goInt, hc]
theorem ex_lns {t : TypeId} {x : Operand} {p : PO} (ho : o.op = .call { callee := .builtin .len, args := #[x], argTypes := #[t] }) (hx : cPO x = some p) (ht : P.underlying t = some .string) (hF : FI nt w0 G0 D Dp G R st a w)
    (h : ∃ l : List UInt8, st.ev p = .str l ∧ v = .v (.int .i64 l.length)) : Runs P o a w (fun w' => fenv w0 D Dp w' G R st.rw) v := by
  have r1 := cPO_rel hx hF
  obtain ⟨l, h1, rfl⟩ := h
  rw [h1] at r1
  refine runs_same (u := .int .i64 l.length) ?_ (.v _ _)
  simp [execOp, ho, r1.inv_v, resolve, invoke, builtin, Builtin.len_, run_underlying ht, goInt, str_size]
theorem ex_mm {mx : Bool} {ts : Array TypeId} {x y : Operand} {p q : PO} (ho : o.op = .call { callee := .builtin (if mx then .max else .min), args := #[x, y], argTypes := ts }) (hx : cPO x = some p) (hy : cPO y = some q) (hF : FI nt w0 G0 D Dp G R st a w)
    (h : ∃ k m n, st.ev p = .v (.int k m) ∧ st.ev q = .v (.int k n) ∧ v = .v (.int k (if mx then max m n else min m n))) : Runs P o a w (fun w' => fenv w0 D Dp w' G R st.rw) v := by
  obtain ⟨k, m, n, h1, h2, rfl⟩ := h
  have r1 := cPO_rel hx hF
  have r2 := cPO_rel hy hF
  rw [h1] at r1
  rw [h2] at r2
  refine runs_same (u := .int k (if mx then max m n else min m n)) ?_ (.v _ _)
  cases mx with
  | true =>
    simp only [if_true] at ho ⊢
    simp [execOp, ho, r1.inv_v, r2.inv_v, resolve, invoke, builtin, Builtin.max_, Builtin.max2]
    split <;> omega
  | false =>
    simp only [Bool.false_eq_true, if_false] at ho ⊢
    simp [execOp, ho, r1.inv_v, r2.inv_v, resolve, invoke, builtin, Builtin.min_, Builtin.min2]
    split <;> omega
theorem ex_ixs {t : TypeId} {x y : Operand} {p q : PO} (ho : o.op = .index t x y) (hx : cPO x = some p) (hy : cPO y = some q) (ht : P.underlying t = some .string) (hF : FI nt w0 G0 D Dp G R st a w)
    (h : ∃ (l : List UInt8) (k : IntKind) (n : Int), st.ev p = .str l ∧ st.ev q = .v (.int k n) ∧ 0 ≤ n ∧ n < l.length ∧ v = .v (.int .u8 ((l.getD n.toNat 0).toNat))) : Runs P o a w (fun w' => fenv w0 D Dp w' G R st.rw) v := by
  obtain ⟨l, k, n, h1, h2, h3, h4, rfl⟩ := h
  have r1 := cPO_rel hx hF
  have r2 := cPO_rel hy hF
  rw [h1] at r1
  rw [h2] at r2
  obtain ⟨j, rfl⟩ := Int.eq_ofNat_of_zero_le h3
  have hj : j < l.length := by omega
  refine runs_same (u := .int .u8 ((l.getD j 0).toNat)) ?_ (.v _ _)
  have hs : (ByteArray.mk l.toArray)[j]? = some l[j] := by
    show (if h : j < (ByteArray.mk l.toArray).size then some (ByteArray.mk l.toArray)[j] else none) = _
    rw [dif_pos (by rw [str_size]; exact hj)]; rfl
  simp [execOp, ho, r1.inv_v, r2.inv_v, Instr.index, asIntOf, run_underlying ht, hs, List.getElem?_eq_getElem hj]
theorem ex_mkf {f : FuncId} {xs : List Operand} {ps : List PO} (ho : o.op = .makeFunc (.func f) #[] (List.toArray xs)) (hx : cPOs xs = some ps) (hF : FI nt w0 G0 D Dp G R st a w) (h : v = .fn f (ps.map st.ev)) : Runs P o a w (fun w' => fenv w0 D Dp w' G R st.rw) v := by
  subst h
  have hR := cPOs_rel hx hF
  refine runs_same (u := .func (.func f) #[] (xs.map a.eval).toArray) ?_ (.fn _ f _ _ hR.1 hR.2)
  simp [execOp, ho, Instr.makeFunc]
end
end Go.Proofs.Ytdkancgcefklfaa
