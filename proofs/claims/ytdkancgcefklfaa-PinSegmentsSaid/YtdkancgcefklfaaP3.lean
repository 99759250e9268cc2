/-
  How an operation of the program becomes one over plain views, and that the one does what the other does: operations that only make a value.
-/
import Derived.Test.YtdkancgcefklfaaP2
namespace Go.Proofs.Ytdkancgcefklfaa
open Go.RowKit

def cvc : Value → PV
  | .slice none 0 0 => .sl 0 [] .full
  | x => .v x
def cv : Value → PV
  | .slice none 0 0 => .sl 0 [] .full
  | .agg cs => if cs.toList.all (·.oneCell') then .agg (cs.toList.map cvc) else .v (.agg cs)
  | x => .v x
theorem rel_nil (E : Env) : Rel E (.sl 0 [] .full) (.slice none 0 0) :=
  .sl E 0 [] .full none 0 [] (fun _ h => by cases h) rfl (fun _ _ _ h => by simp at h) (fun _ h => by cases h) (Nat.le_refl _) (by simp [maxLen]) (fun _ => rfl) (fun _ h => by cases h) (fun h => absurd rfl h) rfl
theorem rel_cvc (E : Env) (x : Value) : Rel E (cvc x) x := by
  unfold cvc
  split
  · exact rel_nil E
  · exact .v E x
theorem rel_map_cvc (E : Env) (us : List Value) : RelL E (us.map cvc) us := by
  refine ⟨by simp, fun j p u hp hu => ?_⟩
  rw [List.getElem?_map, hu] at hp
  simp at hp; subst hp
  exact rel_cvc E u
theorem rel_cv (E : Env) (x : Value) : Rel E (cv x) x := by
  unfold cv
  split
  · exact rel_nil E
  · rename_i cs
    split
    · rename_i h
      have h2 := rel_map_cvc E cs.toList
      have := Rel.agg E (cs.toList.map cvc) cs.toList h2.1 h2.2 (fun u hu => (List.all_eq_true.1 h) u hu)
      simpa using this
    · exact .v E _
  · exact .v E _

def cPO : Operand → Option PO
  | .tmp t => if t < 512 then some (.s (slot t)) else none
  | .const v => some (.k (cv v))
  | .func f => some (.k (.fn f []))
  | .global _ => none
def cPOs : List Operand → Option (List PO)
  | [] => some []
  | x :: r => (cPO x).bind fun y => (cPOs r).map (y :: ·)
section
variable {P : Program} {nt : Nat} {w0 : World} {G0 : List Nat} {D Dp : Nat → Nat → Prop} {G : List Nat} {R : List (Option Rec)} {st : St} {a : Act} {w : World}
theorem cPO_rel {x : Operand} {p : PO} (h : cPO x = some p) (hF : FI nt w0 G0 D Dp G R st a w) : Rel (fenv w0 D Dp w G R st.rw) (st.ev p) (a.eval x) := by
  cases x with
  | tmp t =>
    simp only [cPO] at h
    split at h
    · rename_i ht; simp at h; subst h; exact hF.slots t ht
    · cases h
  | const v => simp [cPO] at h; subst h; exact rel_cv _ v
  | func f => simp [cPO] at h; subst h; exact .fn _ f [] [] rfl (fun _ _ _ h => by simp at h)
  | global g => simp [cPO] at h
theorem cPOs_rel : ∀ {xs : List Operand} {ps : List PO}, cPOs xs = some ps → FI nt w0 G0 D Dp G R st a w → RelL (fenv w0 D Dp w G R st.rw) (ps.map st.ev) (xs.map a.eval)
  | [], ps, h, _ => by simp [cPOs] at h; subst h; exact RelL.nil _
  | x :: r, ps, h, hF => by
    simp only [cPOs, Option.bind_eq_some_iff, Option.map_eq_some_iff] at h
    obtain ⟨y, h1, ys, h2, rfl⟩ := h
    exact RelL.cons (cPO_rel h1 hF) (cPOs_rel h2 hF)
end

/-- what an operation over plain views must do -/
def SoundI (P : Program) (nt n0 : Nat) (o : Oper) (i : PI) : Prop :=
  ∀ w0 (G0 : List Nat) D Dp st st' a w, G0.length ≤ n0 → DomOk w0 D → DomOk w0 Dp → FInv nt w0 G0 D Dp st a w → i.step P st st' → ∀ (K : Act → World → Prop) (Q : Exit → Act → World → Prop), (∀ a' w', FInv nt w0 G0 D Dp st' a' w' → K a' w') → o.wp P a w K Q
/-- an operation that runs to a value -/
def Runs (P : Program) (o : Oper) (a : Act) (w : World) (E : World → Env) (v : PV) : Prop :=
  ∃ u w', (execOp a.eval o).run P w = .ok (.value u) w' ∧ Below w.heap.size w w' ∧ Rel (E w') v u
theorem soundQ {P : Program} {nt n0 : Nat} {o : Oper} {i : PI} {t : Nat} (ho : o.dst = some t) (hi : i.dst = some (slot t)) (ht : t < nt) (ht5 : t < 512)
    (hstep : ∀ st st', i.step P st st' → ∃ v d, i.dst = some d ∧ i.yields P st.ev st.bx v ∧ st' = st.put d v)
    (h : ∀ w0 G0 D Dp G R st a w v, DomOk w0 D → DomOk w0 Dp → FI nt w0 G0 D Dp G R st a w → i.yields P st.ev st.bx v → Runs P o a w (fun w' => fenv w0 D Dp w' G R st.rw) v) : SoundI P nt n0 o i := by
  intro w0 G0 D Dp st st' a w _ hD hDp hF hs K Q hK
  obtain ⟨v, d, hd, hy, rfl⟩ := hstep _ _ hs
  rw [hi] at hd
  simp at hd; subst hd
  obtain ⟨G, R, hF⟩ := hF
  obtain ⟨u, w', hr, hb, hv⟩ := h _ _ _ _ _ _ _ _ _ _ hD hDp hF hy
  unfold Oper.wp
  rw [hr, Oper.upon_value, ho]
  exact hK _ _ ⟨G, R, hF.quiet hb ht ht5 hv⟩
theorem runs_same {P : Program} {o : Oper} {a : Act} {w : World} {E : World → Env} {v : PV} {u : Value} (hr : (execOp a.eval o).run P w = .ok (.value u) w) (hv : Rel (E w) v u) : Runs P o a w E v :=
  ⟨u, w, hr, Below.refl _ _, hv⟩

section
variable {P : Program} {nt : Nat} {w0 : World} {G0 : List Nat} {D Dp : Nat → Nat → Prop} {G : List Nat} {R : List (Option Rec)} {st : St} {a : Act} {w : World} {v : PV} {o : Oper}

/-! ### reading a telling backwards -/
theorem Rel.inv_v {E : Env} {x u : Value} (h : Rel E (.v x) u) : u = x := by cases h; rfl
theorem Rel.inv_agg {E : Env} {cs : List PV} {u : Value} (h : Rel E (.agg cs) u) : ∃ us, u = .agg (List.toArray us) ∧ RelL E cs us ∧ ∀ x ∈ us, x.oneCell' = true := by
  cases h with
  | agg _ cs us hl hp h1 => exact ⟨us, rfl, ⟨hl, hp⟩, h1⟩
theorem Rel.inv_tup {E : Env} {cs : List PV} {u : Value} (h : Rel E (.tup cs) u) : ∃ us, u = .tuple (List.toArray us) ∧ RelL E cs us := by
  cases h with
  | tup _ cs us hl hp => exact ⟨us, rfl, ⟨hl, hp⟩⟩
theorem Rel.inv_fn {E : Env} {f : FuncId} {cs : List PV} {u : Value} (h : Rel E (.fn f cs) u) : ∃ us, u = .func (.func f) #[] (List.toArray us) ∧ RelL E cs us := by
  cases h with
  | fn _ f cs us hl hp => exact ⟨us, rfl, ⟨hl, hp⟩⟩
theorem Rel.one {E : Env} {p : PV} {u : Value} (h : Rel E p u) (hc : p.cell = true) : u.oneCell' = true := by
  cases h <;> simp_all [PV.cell, Value.oneCell']
theorem Rel.inv_cells {E : Env} {p : PV} {u : Value} (h : Rel E p u) (hc : p.cellsOk = true) : RelL E p.cells u.cells.toList ∧ ∀ x ∈ u.cells.toList, x.oneCell' = true := by
  have key : p.cell = true → RelL E [p] u.cells.toList ∧ ∀ x ∈ u.cells.toList, x.oneCell' = true := by
    intro h1
    have h2 := h.one h1
    have h3 : u.cells.toList = [u] := by cases u <;> simp_all [Value.cells, Value.oneCell']
    rw [h3]
    exact ⟨RelL.cons h (RelL.nil _), fun x hx => by simp at hx; subst hx; exact h2⟩
  cases p with
  | agg cs =>
    obtain ⟨us, rfl, h1, h2⟩ := h.inv_agg
    exact ⟨by simpa [PV.cells, Value.cells] using h1, by simpa [Value.cells] using h2⟩
  | v x => exact key hc
  | sl _ _ _ => exact key rfl
  | fn _ _ => exact key rfl
  | pt _ => exact key rfl
  | pb _ _ => exact key rfl
  | sb _ _ _ _ _ => exact key rfl
  | tup _ => cases hc
  | fs _ _ => cases hc
  | fp _ _ => cases hc
  | bad => cases hc

theorem Rel.sh1 {E : Env} {p : PV} {u : Value} (h : Rel E p u) : Rel E.sh p.sh1 u := by
  cases h with
  | v _ x => exact .v _ _
  | sl _ sz es o A cap us hsz hl hp h1 hn hc hA hA0 hm ho =>
    cases o with
    | none => exact .sl _ _ _ _ _ _ us hsz hl hp h1 hn hc hA hA0 hm ho
    | full => exact .sl _ _ _ _ _ _ us hsz hl hp h1 hn hc hA hA0 hm trivial
    | id k => exact .sl _ _ _ _ _ _ us hsz hl hp h1 hn hc hA hA0 hm trivial
    | lent => exact .bad _ _
  | fn _ f cs us hl hp =>
    cases cs with
    | nil => simp at hl; subst hl; exact .fn _ f [] [] rfl (fun _ _ _ h => by simp at h)
    | cons c r => exact .bad _ _
  | pt _ cs b o us hl hp h1 hm => exact .bad _ _
  | pb _ i off g h => exact .bad _ _
  | sb _ i sz off n cap g c h hs => exact .bad _ _
  | agg _ cs us hl hp h1 => exact .bad _ _
  | tup _ cs us hl hp => exact .bad _ _
  | fs => exact .bad _ _
  | fp => exact .bad _ _
  | bad _ u => exact .bad _ _
theorem RelL.sh1 {E : Env} {cs : List PV} {us : List Value} (h : RelL E cs us) : RelL E.sh (cs.map PV.sh1) us := by
  refine ⟨by simp [h.1], fun j p u hp hu => ?_⟩
  rw [List.getElem?_map, Option.map_eq_some_iff] at hp
  obtain ⟨q, hq, rfl⟩ := hp
  exact (h.2 j q u hq hu).sh1

/-! ### plain values -/
theorem ex_mov {x : Operand} {p : PO} (ho : o.op = .move x ∨ o.op = .assign x) (hx : cPO x = some p) (hF : FI nt w0 G0 D Dp G R st a w) (hy : v = st.ev p) : Runs P o a w (fun w' => fenv w0 D Dp w' G R st.rw) v := by
  subst hy
  refine runs_same (u := a.eval x) ?_ (cPO_rel hx hF)
  rcases ho with ho | ho <;> simp [execOp, ho]
theorem ex_pick {c x y : Operand} {p q r : PO} (ho : o.op = .pick c x y) (hc : cPO c = some p) (hx : cPO x = some q) (hy : cPO y = some r) (hF : FI nt w0 G0 D Dp G R st a w)
    (h : ∃ t, st.ev p = .v (.bool t) ∧ v = if t then st.ev q else st.ev r) : Runs P o a w (fun w' => fenv w0 D Dp w' G R st.rw) v := by
  obtain ⟨t, h1, rfl⟩ := h
  have h2 := cPO_rel hc hF
  rw [h1] at h2
  have h3 := h2.inv_v
  refine runs_same (u := if t then a.eval x else a.eval y) ?_ ?_
  · simp only [execOp, ho, h3, asBool]; cases t <;> rfl
  · cases t
    · exact cPO_rel hy hF
    · exact cPO_rel hx hF
/-- an operation on two plain values -/
theorem ex_bin {op : BinOp} {t t' : TypeId} {x y : Operand} {p q : PO} {A B C : Value} (ho : o.op = .binOp op t x y t') (hx : cPO x = some p) (hy : cPO y = some q) (hF : FI nt w0 G0 D Dp G R st a w)
    (h1 : st.ev p = .v A) (h2 : st.ev q = .v B) (hg : (eqGuard op t x y A B).run P w = .ok () w) (h : (binOp op t A B).run P w = .ok C w) : Runs P o a w (fun w' => fenv w0 D Dp w' G R st.rw) (.v C) := by
  have r1 := cPO_rel hx hF
  have r2 := cPO_rel hy hF
  rw [h1] at r1
  rw [h2] at r2
  refine runs_same (u := C) ?_ (.v _ _)
  simp only [execOp, ho, r1.inv_v, r2.inv_v, Sem.run_bind, hg, Result.andThen_ok, h, Sem.run_pure]
theorem guard_int (op : BinOp) (t : TypeId) (x y : Operand) (k j : IntKind) (m n : Int) : (eqGuard op t x y (.int k m) (.int j n)).run P w = .ok () w := by
  cases op <;> simp [eqGuard]
theorem guard_str (op : BinOp) (t : TypeId) (x y : Operand) (m n : ByteArray) : (eqGuard op t x y (.string m) (.string n)).run P w = .ok () w := by
  cases op <;> simp [eqGuard]
theorem guard_bool (op : BinOp) (t : TypeId) (x y : Operand) (m n : Bool) : (eqGuard op t x y (.bool m) (.bool n)).run P w = .ok () w := by
  cases op <;> simp [eqGuard]
theorem run_ar (op : BinOp) (hop : op = .add ∨ op = .sub ∨ op = .mul) (t : TypeId) (k : IntKind) (m n : Int) (h : k.wrap (arRes op m n) = arRes op m n) : (binOp op t (.int k m) (.int k n)).run P w = .ok (.int k (arRes op m n)) w := by
  rcases hop with rfl | rfl | rfl <;> simp_all [binOp, Op.intArith, arRes]
theorem run_dv (op : BinOp) (hop : op = .quo ∨ op = .rem) (t : TypeId) (k : IntKind) (m n : Int) (h0 : n ≠ 0) (h : op = .quo → k.wrap (m.tdiv n) = m.tdiv n) :
    (binOp op t (.int k m) (.int k n)).run P w = .ok (.int k (match op with | .quo => m.tdiv n | _ => m.tmod n)) w := by
  rcases hop with rfl | rfl
  · simp [binOp, Op.intDiv, h0, h rfl]
  · simp [binOp, Op.intDiv, h0]
theorem run_cmp (op : BinOp) (hop : op = .eql ∨ op = .neq ∨ op = .lss ∨ op = .leq ∨ op = .gtr ∨ op = .geq) (t : TypeId) (k : IntKind) (m n : Int) : (binOp op t (.int k m) (.int k n)).run P w = .ok (.bool (cmpRes op m n)) w := by
  rcases hop with rfl | rfl | rfl | rfl | rfl | rfl <;> simp [binOp, Op.intCmp, cmpRes]
  · exact Bool.beq_eq_decide_eq m n
  · rw [bne, Bool.beq_eq_decide_eq]
theorem run_sh (op : BinOp) (hop : op = .shl ∨ op = .shr) (t : TypeId) (k j : IntKind) (m n : Int) (h0 : 0 ≤ n) (h1 : n.toNat ≤ k.bits) :
    (binOp op t (.int k m) (.int j n)).run P w = .ok (.int k (match op with | .shl => k.wrap (m * 2 ^ n.toNat) | _ => m.fdiv (2 ^ n.toNat))) w := by
  have h2 : ¬ n < 0 := by omega
  rcases hop with rfl | rfl <;> simp [binOp, Op.shift, h2, Nat.min_eq_left h1]
theorem str_list (l : List UInt8) : (ByteArray.mk l.toArray).toList = l := by rw [ByteArray.toList_eq]
end
end Go.Proofs.Ytdkancgcefklfaa
