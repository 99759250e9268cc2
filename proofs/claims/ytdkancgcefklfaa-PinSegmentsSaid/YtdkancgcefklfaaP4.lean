/-
  Operations that only make a value, continued: texts, equality, conversions, reading through addresses.
-/
import Derived.Test.YtdkancgcefklfaaP3
import Derived.Laws.StructEq
namespace Go.Proofs.Ytdkancgcefklfaa
open Go.RowKit
section
variable {P : Program} {nt : Nat} {w0 : World} {G0 : List Nat} {D Dp : Nat → Nat → Prop} {G : List Nat} {R : List (Option Rec)} {st : St} {a : Act} {w : World} {v : PV} {o : Oper}

theorem run_seq (neg : Bool) (t : TypeId) (x y : List UInt8) : (binOp (if neg then .neq else .eql) t (.string ⟨x.toArray⟩) (.string ⟨y.toArray⟩)).run P w = .ok (.bool (neg != decide (x = y))) w := by
  cases neg <;> simp [binOp, Op.stringOp] <;> rw [Bool.beq_eq_decide_eq]
theorem run_cat (t : TypeId) (x y : List UInt8) (h : x.length + y.length ≤ 9223372036854775807) : (binOp .add t (.string ⟨x.toArray⟩) (.string ⟨y.toArray⟩)).run P w = .ok (.string ⟨(x ++ y).toArray⟩) w := by
  have := run_string_add_sum (P := P) w ⟨x.toArray⟩ ⟨y.toArray⟩ (by rw [str_size, str_size]; exact h)
  rw [str_app] at this
  exact this
theorem run_scmp (op : BinOp) (hop : op = .lss ∨ op = .leq ∨ op = .gtr ∨ op = .geq) (t : TypeId) (x y : List UInt8) : (binOp op t (.string ⟨x.toArray⟩) (.string ⟨y.toArray⟩)).run P w = .ok (.bool (scmpRes op x y)) w := by
  rcases hop with rfl | rfl | rfl | rfl <;> simp [binOp, Op.stringOp, scmpRes]
theorem run_beq (neg : Bool) {t : TypeId} (ht : P.underlying t = some .bool) (x y : Bool) : (binOp (if neg then .neq else .eql) t (.bool x) (.bool y)).run P w = .ok (.bool (neg != decide (x = y))) w := by
  have h : (Op.equal t (.bool x) (.bool y)).run P w = .ok (x == y) w := by
    have h : ∀ d, (Op.equalIn (d + 1) t (.bool x) (.bool y)).run P w = .ok (x == y) w := fun d => by simp [Op.equalIn, run_underlying ht]
    exact h 9999
  cases neg <;> simp [binOp, h] <;> cases x <;> cases y <;> rfl
theorem guard_agg {op : BinOp} {t : TypeId} (x y : Operand) (m n : Array Value) (hg : P.eqGuardType P.depth t = false) : (eqGuard op t x y (.agg m) (.agg n)).run P w = .ok () w := by
  cases op <;> simp [eqGuard, hg]
theorem run_aeq (neg : Bool) (t : TypeId) (m n : Array Value) (c : Bool) (h : ∀ w, (Op.equal t (.agg m) (.agg n)).run P w = .ok c w) : (binOp (if neg then .neq else .eql) t (.agg m) (.agg n)).run P w = .ok (.bool (neg != c)) w := by
  cases neg <;> simp [binOp, h]

def cellK (P : Program) (t : TypeId) : Option CK :=
  match P.underlying t with
  | some (.int k) => some (.i k)
  | some .bool => some .b
  | some .string => some .s
  | _ => none
def flatF (P : Program) : Nat → List Field → Option (List CK)
  | _, [] => some []
  | k, f :: fs => if f.name ≠ "_" ∧ f.offset = k then (cellK P f.type).bind fun c => (flatF P (k + 1) fs).map (c :: ·) else none
def flatK (P : Program) (t : TypeId) : Option (List CK) :=
  match P.underlying t with
  | some (.struct fs) => if P.stoodInHeld t = false then flatF P 0 fs.toList else none
  | _ => none
/-- what kOk says of the values -/
theorem kOk_vals {ks : List CK} : ∀ {cs : List PV}, kOk ks cs → ∃ us : List Value, cs = us.map .v ∧ us.length = ks.length := by
  induction ks with
  | nil => intro cs h; cases cs with
    | nil => exact ⟨[], rfl, rfl⟩
    | cons c r => cases h
  | cons k ks ih =>
    intro cs h
    cases cs with
    | nil => cases k <;> cases h
    | cons c r =>
      have : ∃ x, c = .v x ∧ kOk ks r := by
        unfold kOk at h
        split at h
        all_goals simp_all
      obtain ⟨x, rfl, hr⟩ := this
      obtain ⟨us, rfl, hl⟩ := ih hr
      exact ⟨x :: us, rfl, by simp [hl]⟩
theorem kOk_ci {k : IntKind} {ks : List CK} {x : Value} {r : List PV} (h : kOk (.i k :: ks) (.v x :: r)) : ∃ n, x = .int k n ∧ kOk ks r := by
  cases x <;> first | exact h.elim | skip
  obtain ⟨rfl, h⟩ := h
  exact ⟨_, rfl, h⟩
theorem kOk_cb {ks : List CK} {x : Value} {r : List PV} (h : kOk (.b :: ks) (.v x :: r)) : ∃ n, x = .bool n ∧ kOk ks r := by
  cases x <;> first | exact h.elim | skip
  exact ⟨_, rfl, h⟩
theorem kOk_cs {ks : List CK} {x : Value} {r : List PV} (h : kOk (.s :: ks) (.v x :: r)) : ∃ n, x = .string n ∧ kOk ks r := by
  cases x <;> first | exact h.elim | skip
  exact ⟨_, rfl, h⟩
theorem notAgg {t : TypeId} {d : TypeDesc} (hu : P.underlying t = some d) (hd : (match d with | .struct _ | .array _ _ => true | _ => false) = false) (w : World) : (isAgg t).run P w = .ok false w := by
  unfold isAgg
  rw [Sem.run_bind, run_underlying hu]
  cases d <;> simp_all
theorem eq_cell {t : TypeId} {ck : CK} (hk : cellK P t = some ck) {x y : Value} {r s : List PV} {ks : List CK} (hx : kOk (ck :: ks) (.v x :: r)) (hy : kOk (ck :: ks) (.v y :: s)) (d : Nat) (w : World) :
    (∃ c : Bool, (Op.equalIn (d + 1) t x y).run P w = .ok c w ∧ (c = true ↔ x = y)) ∧ kOk ks r ∧ kOk ks s ∧ (isAgg t).run P w = .ok false w := by
  unfold cellK at hk
  split at hk
  · rename_i k hu
    simp at hk; subst hk
    obtain ⟨n, rfl, hx'⟩ := kOk_ci hx
    obtain ⟨m, rfl, hy'⟩ := kOk_ci hy
    exact ⟨⟨_, run_equalIn_int w d t _ _ _ _ hu, by simp⟩, hx', hy', notAgg hu rfl w⟩
  · rename_i hu
    simp at hk; subst hk
    obtain ⟨n, rfl, hx'⟩ := kOk_cb hx
    obtain ⟨m, rfl, hy'⟩ := kOk_cb hy
    exact ⟨⟨_, run_equalIn_bool w d t _ _ hu, by simp⟩, hx', hy', notAgg hu rfl w⟩
  · rename_i hu
    simp at hk; subst hk
    obtain ⟨n, rfl, hx'⟩ := kOk_cs hx
    obtain ⟨m, rfl, hy'⟩ := kOk_cs hy
    refine ⟨⟨_, run_equalIn_string w d t _ _ hu, ?_⟩, hx', hy', notAgg hu rfl w⟩
    rw [ByteArray.toList_eq, ByteArray.toList_eq]
    simp only [beq_iff_eq, Value.string.injEq]
    constructor
    · intro h; apply ByteArray.ext; apply Array.ext'; exact h
    · intro h; rw [h]
  · cases hk
theorem eq_fields (xs ys : List Value) (d : Nat) (w : World) : ∀ (fs : List Field) (ks : List CK) (k : Nat), flatF P k fs = some ks → kOk ks ((xs.drop k).map .v) → kOk ks ((ys.drop k).map .v) →
    ∃ c : Bool, (Op.eqFields (d + 1) xs.toArray ys.toArray fs).run P w = .ok c w ∧ (c = true ↔ xs.drop k = ys.drop k)
  | [], ks, k, h, hx, hy => by
    simp [flatF] at h; subst h
    have h1 : xs.drop k = [] := by
      cases hd : xs.drop k with
      | nil => rfl
      | cons a r => rw [hd] at hx; cases hx
    have h2 : ys.drop k = [] := by
      cases hd : ys.drop k with
      | nil => rfl
      | cons a r => rw [hd] at hy; cases hy
    exact ⟨true, by simp [Op.eqFields], by simp [h1, h2]⟩
  | f :: fs, ks, k, h, hx, hy => by
    simp only [flatF] at h
    split at h
    · rename_i hc
      simp only [Option.bind_eq_some_iff, Option.map_eq_some_iff] at h
      obtain ⟨ck, h1, ks', h2, rfl⟩ := h
      cases hdx : xs.drop k with
      | nil => rw [hdx] at hx; cases ck <;> cases hx
      | cons a r =>
        cases hdy : ys.drop k with
        | nil => rw [hdy] at hy; cases ck <;> cases hy
        | cons b s =>
          rw [hdx] at hx
          rw [hdy] at hy
          obtain ⟨⟨c, hr, hcc⟩, kx, ky, hag⟩ := eq_cell h1 hx hy d w
          have e1 : xs.drop (k + 1) = r := by rw [← List.drop_drop, hdx]; rfl
          have e2 : ys.drop (k + 1) = s := by rw [← List.drop_drop, hdy]; rfl
          obtain ⟨c2, hr2, hc2⟩ := eq_fields xs ys d w fs ks' (k + 1) h2 (by rw [e1]; exact kx) (by rw [e2]; exact ky)
          rw [e1, e2] at hc2
          have g1 : xs[k]? = some a := by have := List.getElem?_drop (xs := xs) (i := k) (j := 0); rw [hdx] at this; simpa using this.symm
          have g2 : ys[k]? = some b := by have := List.getElem?_drop (xs := ys) (i := k) (j := 0); rw [hdy] at this; simpa using this.symm
          have p1 : (part f.type xs.toArray f.offset).run P w = .ok a w := by
            unfold part; rw [Sem.run_bind, hag]; simp [hc.2, g1]
          have p2 : (part f.type ys.toArray f.offset).run P w = .ok b w := by
            unfold part; rw [Sem.run_bind, hag]; simp [hc.2, g2]
          cases c with
          | true =>
            refine ⟨c2, ?_, ?_⟩
            · simp only [Op.eqFields]
              rw [if_pos hc.1]
              simp only [Sem.run_bind, p1, p2, Result.andThen_ok, hr, Bool.not_true, Bool.false_eq_true, if_false, hr2]
            · rw [hc2, hcc.1 rfl]; simp
          | false =>
            refine ⟨false, ?_, ?_⟩
            · simp only [Op.eqFields]
              rw [if_pos hc.1]
              simp only [Sem.run_bind, p1, p2, Result.andThen_ok, hr, Bool.not_false, if_true, Sem.run_pure]
            · constructor
              · intro h; cases h
              · intro h
                simp only [List.cons.injEq] at h
                exact (hcc.2 h.1)
    · cases h
theorem eq_flat {t : TypeId} {ks : List CK} (hk : flatK P t = some ks) {xs ys : List Value} (hx : kOk ks (xs.map .v)) (hy : kOk ks (ys.map .v)) (w : World) : ∃ c : Bool, (Op.equal t (.agg xs.toArray) (.agg ys.toArray)).run P w = .ok c w ∧ (c = true ↔ xs = ys) := by
  unfold flatK at hk
  split at hk
  · rename_i fs hu
    split at hk
    · rename_i hs
      have hf : P.fieldsOf t = fs := by simp [Program.fieldsOf, hu]
      obtain ⟨c, h1, h2⟩ := eq_fields xs ys 9998 w fs.toList ks 0 hk hx hy
      refine ⟨c, ?_, by simpa using h2⟩
      have := run_equalIn_struct (P := P) w 9999 t xs.toArray ys.toArray (by rw [hf]; exact hu) hs
      rw [hf] at this
      exact this.trans h1
    · cases hk
  · cases hk
theorem ex_not {x : Operand} {p : PO} {t : TypeId} (ho : o.op = .unOp .not t x) (hx : cPO x = some p) (hF : FI nt w0 G0 D Dp G R st a w)
    (h : ∃ b, st.ev p = .v (.bool b) ∧ v = .v (.bool (!b))) : Runs P o a w (fun w' => fenv w0 D Dp w' G R st.rw) v := by
  obtain ⟨b, h1, rfl⟩ := h
  have h2 := cPO_rel hx hF
  rw [h1] at h2
  refine runs_same (u := .bool (!b)) ?_ (.v _ _)
  simp [execOp, ho, h2.inv_v, Op.unary]
theorem ex_cvi {x : Operand} {p : PO} {s t : TypeId} {k : IntKind} (ho : o.op = .convert s t x) (hx : cPO x = some p) (hs : ∃ d, P.underlying s = some d) (ht : P.underlying t = some (.int k)) (hF : FI nt w0 G0 D Dp G R st a w)
    (h : ∃ j n, st.ev p = .v (.int j n) ∧ v = .v (.int k (k.wrap n))) : Runs P o a w (fun w' => fenv w0 D Dp w' G R st.rw) v := by
  obtain ⟨j, n, h1, rfl⟩ := h
  obtain ⟨d, hs⟩ := hs
  have h2 := cPO_rel hx hF
  rw [h1] at h2
  refine runs_same (u := .int k (k.wrap n)) ?_ (.v _ _)
  simp [execOp, ho, h2.inv_v, convert, run_underlying hs, run_underlying ht, Conv.intToInt]
theorem ex_cid {x : Operand} {p : PO} {s t : TypeId} (ho : o.op = .convert s t x) (hx : cPO x = some p) (hs : P.underlying s = some .string) (ht : P.underlying t = some .string) (hF : FI nt w0 G0 D Dp G R st a w)
    (h : ∃ l : List UInt8, st.ev p = .str l ∧ v = .str l) : Runs P o a w (fun w' => fenv w0 D Dp w' G R st.rw) v := by
  obtain ⟨l, h1, rfl⟩ := h
  have h2 := cPO_rel hx hF
  rw [h1] at h2
  refine runs_same (u := .string ⟨l.toArray⟩) ?_ (.v _ _)
  simp [execOp, ho, h2.inv_v, convert, run_underlying hs, run_underlying ht]

/-! ### slices -/
theorem unB_spec : ∀ {es : List (List PV)} {l : List UInt8}, unB es = some l → es = l.map fun c => [.v (bV c)]
  | [], l, h => by simp [unB] at h; subst h; rfl
  | e :: r, l, h => by
    unfold unB at h
    split at h
    · simp_all
    · rename_i n r' heq
      simp only [List.cons.injEq] at heq
      obtain ⟨rfl, rfl⟩ := heq
      split at h
      · rename_i hn
        simp only [Option.map_eq_some_iff] at h
        obtain ⟨l', h1, rfl⟩ := h
        rw [List.map_cons, ← unB_spec h1]
        simp only [bV, List.cons.injEq, PV.v.injEq, Value.int.injEq, true_and, and_true]
        rw [UInt8.toNat_ofNat']; omega
      · cases h
    · cases h
theorem unB_map (l : List UInt8) : unB (l.map fun c => [.v (.int .u8 c.toNat)]) = some l := by
  induction l with
  | nil => rfl
  | cons c r ih =>
    have := c.toNat_lt
    simp only [List.map_cons, unB, ih]
    rw [if_pos (by omega)]
    simp
theorem flat_sing {α β : Type} (f : α → β) (l : List α) : (l.map fun c => [f c]).flatten = l.map f := by
  induction l <;> simp_all
/-- a slice's cells -/
theorem rdom_p {rw_ : List Nat} {o : Own} {b e : Nat} (h : (fenv w0 D Dp w G R rw_).rdom o b e) : inDom w0 w (fun b e => D b e ∨ Dp b e) G R rw_ b e := by
  cases o with
  | lent => exact h
  | _ => exact ⟨h.1, fun hb => .inl (h.2.1 hb), h.2.2⟩
theorem Rel.inv_sb {E : Env} {i sz off n : Nat} {cap : Option Nat} {u : Value} (h : Rel E (.sb i sz off n cap) u) : ∃ g c, u = .slice (some ⟨g, off, none⟩) n c ∧ E.box i = some g ∧ sbOk E.w g sz off n c cap := by
  cases h with
  | sb _ i sz off n cap g c h hs => exact ⟨g, c, rfl, h, hs⟩
theorem Rel.inv_sl {E : Env} {sz : Nat} {es : List (List PV)} {o : Own} {u : Value} (h : Rel E (.sl sz es o) u) :
    ∃ A cap us, u = .slice A es.length cap ∧ RelL E.sh es.flatten us ∧ (∀ x ∈ us, x.oneCell' = true) ∧ es.length ≤ cap ∧ cap ≤ maxLen ∧ (A = none → cap = 0) ∧ (∀ a, A = some a → cap ≠ 0 → a.spot = none ∧ a.block < E.w.heap.size) ∧
      (us ≠ [] → ∃ b off, A = some ⟨b, off, none⟩ ∧ E.rdom o b (off + us.length) ∧ ∀ (j : Nat) x, us[j]? = some x → E.w.cell? ⟨b, off + j, none⟩ = some x) ∧ ownOk E sz es.length A cap o ∧ ∀ e ∈ es, e.length = sz := by
  cases h with
  | sl _ sz es o A cap us hsz hl hp h1 hn hc hA hA0 hm ho => exact ⟨A, cap, us, rfl, ⟨hl, hp⟩, h1, hn, hc, hA, hA0, hm, ho, hsz⟩
theorem relL_vals {E : Env} {xs us : List Value} (h : RelL E (xs.map .v) us) : us = xs := by
  obtain ⟨h1, h2⟩ := h
  apply List.ext_getElem?
  intro j
  simp only [List.length_map] at h1
  by_cases hj : j < xs.length
  · have := h2 j (.v xs[j]) us[j] (by simp [hj]) (List.getElem?_eq_getElem (by omega))
    rw [List.getElem?_eq_getElem (by omega), List.getElem?_eq_getElem hj, this.inv_v]
  · rw [List.getElem?_eq_none (by omega), List.getElem?_eq_none (by omega)]
theorem ex_cbs {x : Operand} {p : PO} {s t e : TypeId} (ho : o.op = .convert s t x) (hx : cPO x = some p) (hs : P.underlying s = some (.slice e)) (he : P.underlying e = some (.int .u8)) (ht : P.underlying t = some .string) (hF : FI nt w0 G0 D Dp G R st a w)
    (h : ∃ sz es o l, st.ev p = .sl sz es o ∧ (sz = 1 ∨ es = []) ∧ unB es = some l ∧ v = .str l) : Runs P o a w (fun w' => fenv w0 D Dp w' G R st.rw) v := by
  obtain ⟨sz, es, o', l, h1, _, h3, rfl⟩ := h
  have h2 := cPO_rel hx hF
  rw [h1] at h2
  obtain ⟨A, cap, us, hu, hR, _, _, _, _, _, hm, _⟩ := h2.inv_sl
  have he' := unB_spec h3
  rw [he', flat_sing] at hR
  have hR' : RelL (fenv w0 D Dp w G R st.rw).sh ((l.map bV).map .v) us := by rw [List.map_map]; exact hR
  have hus := relL_vals hR'
  subst hus
  have hlen : es.length = l.length := by rw [he']; simp
  have hl : Lies w w.heap.size A (l.map bV) := fun hne => by
    obtain ⟨b, of, e1, e2, e3⟩ := hm hne
    exact ⟨b, of, e1, (rdom_p e2).1, fun j hj => e3 j _ (List.getElem?_eq_getElem hj)⟩
  have hr := run_bytes_string (P := P) (dst := t) hs he ht l cap hl
  refine runs_same (u := .string ⟨l.toArray⟩) ?_ (.v _ _)
  rw [hlen] at hu
  simp only [execOp, ho, hu, Sem.run_bind, hr, Result.andThen_ok, Sem.run_pure]

/-! ### addresses -/
theorem addr_add (b o k : Nat) : (⟨b, o, none⟩ : Addr).add k = ⟨b, o + k, none⟩ := by
  unfold Addr.add; split <;> simp_all
theorem Rel.inv_pt {E : Env} {cs : List PV} {u : Value} (h : Rel E (.pt cs) u) : ∃ b o us, u = .pointer (some ⟨b, o, none⟩) ∧ RelL E.sh cs us ∧ (∀ x ∈ us, x.oneCell' = true) ∧
    (us ≠ [] → E.pdom b (o + us.length) ∧ ∀ (j : Nat) x, us[j]? = some x → E.w.cell? ⟨b, o + j, none⟩ = some x) := by
  cases h with
  | pt _ cs b o us hl hp h1 hm => exact ⟨b, o, us, rfl, ⟨hl, hp⟩, h1, hm⟩
theorem Rel.inv_pb {E : Env} {i off : Nat} {u : Value} (h : Rel E (.pb i off) u) : ∃ g, u = .pointer (some ⟨g, off, none⟩) ∧ E.box i = some g := by
  cases h with
  | pb _ i off g h => exact ⟨g, rfl, h⟩
theorem rel_pt_drop {E : Env} {cs : List PV} {b o : Nat} (k : Nat) (h : Rel E (.pt cs) (.pointer (some ⟨b, o, none⟩))) : Rel E (.pt (cs.drop k)) (.pointer (some ⟨b, o + k, none⟩)) := by
  obtain ⟨b', o', us, e, hR, h1, hm⟩ := h.inv_pt
  simp only [Value.pointer.injEq, Option.some.injEq, Addr.mk.injEq, and_true] at e
  obtain ⟨rfl, rfl⟩ := e
  have hd := hR.drop k
  refine .pt _ _ _ _ (us.drop k) hd.1 hd.2 (fun x hx => h1 x (List.mem_of_mem_drop hx)) fun hne => ?_
  have hk : k < us.length := by
    rcases Nat.lt_or_ge k us.length with h | h
    · exact h
    · exact absurd (List.drop_of_length_le h) hne
  obtain ⟨h2, h3⟩ := hm (by rintro rfl; simp at hk)
  refine ⟨by rw [List.length_drop, show o + k + (us.length - k) = o + us.length by omega]; exact h2, fun j x hx => ?_⟩
  rw [List.getElem?_drop] at hx
  rw [Nat.add_assoc]
  exact h3 _ _ hx
theorem ex_fa {s : TypeId} {x : Operand} {f : Nat} {p : PO} {fs : Array Field} {fd : Field} (ho : o.op = .fieldAddr s x f) (hx : cPO x = some p) (hs : P.underlying s = some (.struct fs)) (hf : fs[f]? = some fd)
    (hz : ∃ i, P.info? fd.type = some i ∧ i.size ≠ 0) (hF : FI nt w0 G0 D Dp G R st a w)
    (h : (∃ ds, st.ev p = .pt ds ∧ v = .pt (ds.drop fd.offset)) ∨ (∃ b o, st.ev p = .pb b o ∧ v = .pb b (o + fd.offset))) : Runs P o a w (fun w' => fenv w0 D Dp w' G R st.rw) v := by
  obtain ⟨i, hi, hi0⟩ := hz
  have h2 := cPO_rel hx hF
  have key : ∀ b off, a.eval x = .pointer (some ⟨b, off, none⟩) → (execOp a.eval o).run P w = .ok (.value (.pointer (some ⟨b, off + fd.offset, none⟩))) w := by
    intro b off he
    simp only [execOp, ho, he, Instr.fieldAt, Instr.sureAddr, fieldPlace, Sem.run_bind, run_underlying hs, Result.andThen_ok, hf, Sem.run_pure, sizeOf, typeInfo, run_program, hi]
    rw [if_neg hi0]
    simp only [Sem.run_pure, Result.andThen_ok, addr_add]
  rcases h with ⟨ds, h1, rfl⟩ | ⟨b, off, h1, rfl⟩
  · rw [h1] at h2
    obtain ⟨b, off, us, e, _⟩ := id h2.inv_pt
    rw [e] at h2
    exact runs_same (key b off e) (rel_pt_drop _ h2)
  · rw [h1] at h2
    obtain ⟨g, e, hg⟩ := h2.inv_pb
    exact runs_same (key g off e) (.pb _ _ _ _ hg)
theorem run_indexAt_arr {t e : TypeId} {m : Nat} {i : TypeInfo} (ht : P.underlying t = some (.array m e)) (hi : P.info? e = some i) (b off : Nat) (k : IntKind) (n : Int) (h0 : 0 ≤ n) (h1 : n < m) :
    (Instr.indexAt t (.pointer (some ⟨b, off, none⟩)) (.int k n)).run P w = .ok (.pointer (some ⟨b, off + n.toNat * i.size, none⟩)) w := by
  simp [Instr.indexAt, asIntOf, run_underlying ht, Instr.sureAddr, h0, h1, sizeOf, typeInfo, hi, addr_add]
theorem ex_iap {t e : TypeId} {m : Nat} {i : TypeInfo} {x y : Operand} {p q : PO} (ho : o.op = .indexAddr t x y) (hx : cPO x = some p) (hy : cPO y = some q) (ht : P.underlying t = some (.array m e)) (hi : P.info? e = some i) (hF : FI nt w0 G0 D Dp G R st a w)
    (h : ∃ k n, st.ev q = .v (.int k n) ∧ 0 ≤ n ∧ n < m ∧ ((∃ ds, st.ev p = .pt ds ∧ v = .pt (ds.drop (n.toNat * i.size))) ∨ (∃ b o, st.ev p = .pb b o ∧ v = .pb b (o + n.toNat * i.size)))) : Runs P o a w (fun w' => fenv w0 D Dp w' G R st.rw) v := by
  obtain ⟨k, n, h1, h2, h3, h⟩ := h
  have r1 := cPO_rel hx hF
  have r2 := cPO_rel hy hF
  rw [h1] at r2
  have key : ∀ b off, a.eval x = .pointer (some ⟨b, off, none⟩) → (execOp a.eval o).run P w = .ok (.value (.pointer (some ⟨b, off + n.toNat * i.size, none⟩))) w := by
    intro b off he
    simp only [execOp, ho, he, r2.inv_v, Sem.run_bind, run_indexAt_arr ht hi b off k n h2 h3, Result.andThen_ok, Sem.run_pure]
  rcases h with ⟨ds, h4, rfl⟩ | ⟨b, off, h4, rfl⟩
  · rw [h4] at r1
    obtain ⟨b, off, us, e, _⟩ := id r1.inv_pt
    rw [e] at r1
    exact runs_same (key b off e) (rel_pt_drop _ r1)
  · rw [h4] at r1
    obtain ⟨g, e, hg⟩ := r1.inv_pb
    exact runs_same (key g off e) (.pb _ _ _ _ hg)
theorem flat_len {sz : Nat} {es : List (List PV)} (h : ∀ e ∈ es, e.length = sz) : es.flatten.length = es.length * sz := by
  induction es with
  | nil => simp
  | cons e r ih =>
    rw [List.flatten_cons, List.length_append, ih (fun x hx => h x (by simp [hx])), h e (by simp), List.length_cons, Nat.succ_mul, Nat.add_comm]
theorem flat_at {sz : Nat} {es : List (List PV)} (h : ∀ e ∈ es, e.length = sz) (i : Nat) (hi : i < es.length) : (es.flatten.drop (i * sz)).take sz = es.getD i [] := by
  induction es generalizing i with
  | nil => simp at hi
  | cons e r ih =>
    have he := h e (by simp)
    cases i with
    | zero => simp [← he]
    | succ i =>
      rw [List.flatten_cons, Nat.succ_mul, Nat.add_comm, ← he, ← List.drop_drop, List.drop_left, he, ih (fun x hx => h x (by simp [hx])) i (by simpa using hi)]
      rfl
theorem Rel.inv_fs {E : Env} {f : FuncId} {cs : List PV} {u : Value} (h : Rel E (.fs f cs) u) : ∃ b o us, u = .slice (some ⟨b, o, none⟩) 1 1 ∧ RelL E cs us ∧ b < E.w.heap.size ∧ E.pdom b (o + 1) ∧ E.w.cell? ⟨b, o, none⟩ = some (.func (.func f) #[] (List.toArray us)) := by
  cases h with
  | fs _ f cs b o us hl hp hb hd hc => exact ⟨b, o, us, rfl, ⟨hl, hp⟩, hb, hd, hc⟩
theorem Rel.inv_fp {E : Env} {f : FuncId} {cs : List PV} {u : Value} (h : Rel E (.fp f cs) u) : ∃ b o us, u = .pointer (some ⟨b, o, none⟩) ∧ RelL E cs us ∧ b < E.w.heap.size ∧ E.pdom b (o + 1) ∧ E.w.cell? ⟨b, o, none⟩ = some (.func (.func f) #[] (List.toArray us)) := by
  cases h with
  | fp _ f cs b o us hl hp hb hd hc => exact ⟨b, o, us, rfl, ⟨hl, hp⟩, hb, hd, hc⟩
theorem ex_ia {t e : TypeId} {i : TypeInfo} {x y : Operand} {p q : PO} (ho : o.op = .indexAddr t x y) (hx : cPO x = some p) (hy : cPO y = some q) (ht : P.underlying t = some (.slice e)) (hi : P.info? e = some i) (hD : DomOk w0 D) (hDp : DomOk w0 Dp) (hF : FI nt w0 G0 D Dp G R st a w)
    (h : (∃ s es o k n, st.ev p = .sl s es o ∧ st.ev q = .v (.int k n) ∧ (s = i.size ∨ es = []) ∧ 0 ≤ n ∧ n < es.length ∧ v = .pt (es.getD n.toNat [])) ∨
      (∃ b off m c k n, st.ev p = .sb b i.size off m c ∧ st.ev q = .v (.int k n) ∧ 0 ≤ n ∧ n < m ∧ v = .pb b (off + n.toNat * i.size)) ∨ (∃ f cs k, st.ev p = .fs f cs ∧ st.ev q = .v (.int k 0) ∧ i.size = 1 ∧ v = .fp f cs)) : Runs P o a w (fun w' => fenv w0 D Dp w' G R st.rw) v := by
  rcases h with ⟨s, es, ow, k, n, h1, h2, h3, h4, h5, rfl⟩ | ⟨b, off, m, c, k, n, h1, h2, h3, h4, rfl⟩ | ⟨f, cs, k, h1, h2, h3, rfl⟩
  case inr.inr =>
    have r1 := cPO_rel hx hF
    have r2 := cPO_rel hy hF
    rw [h1] at r1
    rw [h2] at r2
    obtain ⟨b, o', us, hu, hR, hb, hd, hc⟩ := r1.inv_fs
    have hru : (Instr.indexAt t (.slice (some ⟨b, o', none⟩) 1 1) (.int k 0)).run P w = .ok (.pointer (some ⟨b, o', none⟩)) w := by
      simp [Instr.indexAt, asIntOf, run_underlying ht, sizeOf, typeInfo, hi, addr_add]
    refine runs_same (u := .pointer (some ⟨b, o', none⟩)) ?_ (.fp _ _ _ _ _ us hR.1 hR.2 hb hd hc)
    simp only [execOp, ho, hu, r2.inv_v, Sem.run_bind, hru, Result.andThen_ok, Sem.run_pure]
  case inr.inl =>
    have r1 := cPO_rel hx hF
    have r2 := cPO_rel hy hF
    rw [h1] at r1
    rw [h2] at r2
    obtain ⟨g, cc, hu, hg, _⟩ := r1.inv_sb
    obtain ⟨j, rfl⟩ := Int.eq_ofNat_of_zero_le h3
    have hj : j < m := by omega
    have hru : (Instr.indexAt t (.slice (some ⟨g, off, none⟩) m cc) (.int k j)).run P w = .ok (.pointer (some ⟨g, off + j * i.size, none⟩)) w := by
      simp [Instr.indexAt, asIntOf, run_underlying ht, hj, sizeOf, typeInfo, hi, addr_add]
    refine runs_same (u := .pointer (some ⟨g, off + j * i.size, none⟩)) ?_ ?_
    · simp only [execOp, ho, hu, r2.inv_v, Sem.run_bind, hru, Result.andThen_ok, Sem.run_pure]
    · rw [Int.toNat_natCast]; exact .pb _ _ _ _ hg
  have r1 := cPO_rel hx hF
  have r2 := cPO_rel hy hF
  rw [h1] at r1
  rw [h2] at r2
  obtain ⟨A, cap, us, hu, hR, h1c, hnc, hcm, hA, hA0, hm, _, hsz⟩ := r1.inv_sl
  have hs : s = i.size := by
    rcases h3 with h | h
    · exact h
    · subst h; simp at h5; omega
  subst hs
  obtain ⟨j, rfl⟩ := Int.eq_ofNat_of_zero_le h4
  have hj : j < es.length := by omega
  obtain ⟨ad, rfl⟩ : ∃ ad, A = some ad := by
    cases A with
    | none => have := hA rfl; omega
    | some ad => exact ⟨ad, rfl⟩
  obtain ⟨b, off, sp⟩ := ad
  obtain rfl : sp = none := (hA0 _ rfl (by omega)).1
  have hfl := flat_len hsz
  have hmul : j * i.size + i.size ≤ es.length * i.size := by rw [← Nat.succ_mul]; exact Nat.mul_le_mul_right _ hj
  have hru : (Instr.indexAt t (.slice (some ⟨b, off, none⟩) es.length cap) (.int k j)).run P w = .ok (.pointer (some ⟨b, off + j * i.size, none⟩)) w := by
    simp [Instr.indexAt, asIntOf, run_underlying ht, hj, sizeOf, typeInfo, hi, addr_add]
  refine runs_same (u := .pointer (some ⟨b, off + j * i.size, none⟩)) ?_ ?_
  · simp only [execOp, ho, hu, r2.inv_v, Sem.run_bind, hru, Result.andThen_ok, Sem.run_pure]
  · have hd := (hR.drop (j * i.size)).take i.size
    rw [flat_at hsz j hj] at hd
    rw [Int.toNat_natCast]
    refine .pt _ _ _ _ ((us.drop (j * i.size)).take i.size) hd.1 hd.2 (fun x hx => h1c x (List.mem_of_mem_drop (List.mem_of_mem_take hx))) fun hne => ?_
    have hul : us.length = es.length * i.size := by rw [hR.1, hfl]
    have hlen : ((us.drop (j * i.size)).take i.size).length = i.size := by rw [List.length_take, List.length_drop]; omega
    have hne2 : us ≠ [] := by rintro rfl; simp at hne
    obtain ⟨b', off', e1, e2, e3⟩ := hm hne2
    simp only [Option.some.injEq, Addr.mk.injEq, and_true] at e1
    obtain ⟨rfl, rfl⟩ := e1
    refine ⟨?_, fun m x hx => ?_⟩
    · rw [hlen]
      have e2 := rdom_p e2
      refine ⟨e2.1, fun hb => ?_, e2.2.2.1, fun k r n hk hn hg => ?_⟩
      · exact (e2.2.1 hb).elim (fun h => .inl (hD.down _ _ _ h (by omega))) (fun h => .inr (hDp.down _ _ _ h (by omega)))
      · have := e2.2.2.2 k r n hk hn hg
        omega
    · rw [List.getElem?_take] at hx
      split at hx
      · rw [List.getElem?_drop] at hx
        rw [Nat.add_assoc]
        exact e3 _ _ hx
      · cases hx
end
end Go.Proofs.Ytdkancgcefklfaa
