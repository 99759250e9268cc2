/-
  A function's whole code over plain views, and what it says of a call.
-/
import Derived.Test.YtdkancgcefklfaaPE
namespace Go.Proofs.Ytdkancgcefklfaa
open Go.RowKit

/-- those that wait for x or y -/
def late (bm : List Nat) (x y k : Nat) : Bool := (bm.getD k 0).testBit x || (bm.getD k 0).testBit y
/-- the first pair of a list that may not change places -/
def clash (gs : List GI) (bm : List Nat) : List Nat → Option (Nat × Nat)
  | [] => none
  | k :: r => match r.find? fun j => !((bm.getD j 0).testBit k || match gs[k]?, gs[j]? with
      | some x, some y => indep x y
      | _, _ => false) with
    | some j => some (k, j)
    | none => clash gs bm r
def cFork (gs : List GI) (bm : List Nat) : Option PC :=
  (clash gs bm (ordOf gs)).bind fun (x, y) =>
    let l := (ordOf gs).filter fun k => !(k == x || k == y || late bm x y k)
    let r := (ordOf gs).filter fun k => !(k == x || k == y) && late bm x y k
    let o := l ++ x :: y :: r
    if (o.Nodup ∧ (∀ k ∈ o, k < gs.length) ∧ (∀ k, k < gs.length → k ∈ o)) ∧ pairsOk gs bm (l ++ y :: r) = true ∧ pairsOk gs bm (l ++ x :: r) = true then
      (l.mapM fun k => gs[k]?).bind fun a => ((x :: y :: r).mapM fun k => gs[k]?).bind fun b => ((y :: x :: r).mapM fun k => gs[k]?).map fun c => .fork a b c
    else none
def cReg (P : Program) (nt n0 : Nat) (ms : List FuncId) (ops : List Oper) (draw : Bool) : Option PC :=
  (ops.mapM (cG P nt n0 ms ops)).bind fun gs =>
    if draw then
      if P.follows .mixedOrders && bmOk ops (bmOf ops) && backOk ops then
        if pairsOk gs (bmOf ops) (ordOf gs) && ((List.range gs.length).all fun k => (ordOf gs).contains k) && (ordOf gs).length == gs.length then ((ordOf gs).mapM (fun k => gs[k]?)).map .reg else cFork gs (bmOf ops)
      else none
    else some (.reg gs)
def PC.asg : PC → List Slot
  | .reg l => l.filterMap (·.i.dst)
  | .fork l b _ => l.filterMap (·.i.dst) ++ b.filterMap (·.i.dst)
  | .seq a b | .cond _ a b => a.asg ++ b.asg
  | .block _ b | .loop _ _ b => b.asg
  | _ => []
def cCode (P : Program) (nt n0 : Nat) (ms : List FuncId) : Code → Option PC
  | .skip => some .skip
  | .region _ ops draw => cReg P nt n0 ms ops.toList draw
  | .seq a b => (cCode P nt n0 ms a).bind fun x => (cCode P nt n0 ms b).map fun y => .seq x y
  | .cond c a b => (cPO c).bind fun p => (cCode P nt n0 ms a).bind fun x => (cCode P nt n0 ms b).map fun y => .cond p x y
  | .block id b => (cCode P nt n0 ms b).map (.block id)
  | .loop b => (cCode P nt n0 ms b).map fun x => .loop n0 x.asg.eraseDups x
  | .exit id => some (.exit id)
  | .ret => some .ret
  | _ => none
def PE.toExit : PE → Exit
  | .norm => .normal
  | .exit id => .exit id
  | .ret => .ret
section
variable {P : Program} {nt n0 : Nat} {ms : List FuncId} {w0 : World} {G0 : List Nat} {D Dp : Nat → Nat → Prop}

theorem made_of {ops : List Oper} {gs : List GI} (h : ops.mapM (cG P nt n0 ms ops) = some gs) : Made P nt n0 ms ops gs ∧ gs.length = ops.length := by
  obtain ⟨h1, h2⟩ := mapM_some h
  refine ⟨fun k gi hk => ?_, h1⟩
  obtain ⟨hk1, rfl⟩ := List.getElem?_eq_some_iff.1 hk
  exact ⟨ops[k], List.getElem?_eq_getElem (by omega), h2 k (by omega) hk1⟩
theorem runI_range {gs : List GI} {st : St} {K : St → Prop} (h : runR P gs st K) : runI P gs (List.range gs.length) st K := by
  refine runI_of ?_ h
  have : ∀ (ks : List Nat) (l : List GI), ks.length = l.length → (∀ (j : Nat) (h : j < ks.length) (h' : j < l.length), gs[ks[j]]? = some l[j]) → ks.mapM (fun k => gs[k]?) = some l := by
    intro ks
    induction ks with
    | nil => intro l hl _; cases l <;> simp_all
    | cons k ks ih =>
      intro l hl hg
      cases l with
      | nil => simp at hl
      | cons g l =>
        have h0 := hg 0 (by simp) (by simp)
        simp only [List.getElem_cons_zero] at h0
        have h1 := ih l (by simpa using hl) (fun j h h' => by
          have := hg (j + 1) (by simp; omega) (by simp; omega)
          simpa using this)
        simp [List.mapM_cons, h0, h1]
  exact this _ _ (by simp) (fun j h h' => by simp [List.getElem?_eq_getElem h'])
theorem FInv.drew {st : St} {a : Act} {w : World} (h : FInv nt w0 G0 D Dp st a w) : FInv nt w0 G0 D Dp st a { w with drawn := w.drawn + 1 } := by
  obtain ⟨G, R, h⟩ := h
  exact ⟨G, R, h.grow (below_drewN w 1 _)⟩
theorem runR_imp {K K' : St → Prop} (hk : ∀ st, K st → K' st) : ∀ {l : List GI} {st : St}, runR P l st K → runR P l st K'
  | [], _, h => hk _ h
  | _ :: _, _, ⟨st', h1, h2⟩ => ⟨st', h1, runR_imp hk h2⟩
theorem reg_sound {ops : List Oper} {draw : Bool} {pc : PC} (h : cReg P nt n0 ms ops draw = some pc) (hG0 : G0.length ≤ n0) (hD : DomOk w0 D) (hDp : DomOk w0 Dp) {st : St} {a : Act} {w : World} {K : PE → St → Prop} (hr : pwp P n0 pc K st) (hF : FInv nt w0 G0 D Dp st a w)
    {Q : Exit → Act → World → Prop} (hQ : ∀ st' a' w', K .norm st' → FInv nt w0 G0 D Dp st' a' w' → Q .normal a' w') (id : Nat) : (Code.region id ops.toArray draw).wp P Q a w := by
  simp only [cReg, Option.bind_eq_some_iff] at h
  obtain ⟨gs, h1, h2⟩ := h
  obtain ⟨hm, hgl⟩ := made_of h1
  have hsz : ops.toArray.size = ops.length := by simp
  cases draw with
  | false =>
    simp at h2; subst h2
    refine wp_region ?_
    have := ops_sound (Q := Q) hm hG0 hD hDp hQ _ st a w (runI_range hr) hF
    rw [hgl] at this
    simpa using this
  | true =>
    simp only [if_true] at h2
    split at h2
    · rename_i hc
      simp only [Bool.and_eq_true] at hc
      obtain ⟨⟨c1, c2⟩, c3⟩ := hc
      have hcl : Closed ops (Array.replicate ops.toArray.size false) := by
        intro k o ho hk
        rw [Array.getD_eq_getD_getElem?] at hk
        have := (List.getElem?_eq_some_iff.1 ho).1
        simp [this] at hk
      have hmem : ∀ l : List Nat, (∀ k ∈ l, k < gs.length) → (∀ k, k < gs.length → k ∈ l) → ∀ k, k ∈ l ↔ k < ops.length ∧ (Array.replicate ops.toArray.size false).getD k true = false := by
        intro l h3 h4 k
        constructor
        · intro hk
          have := h3 k hk
          refine ⟨by omega, ?_⟩
          rw [Array.getD_eq_getD_getElem?]
          simp [show k < ops.length by omega]
        · rintro ⟨hk, _⟩
          exact h4 k (by omega)
      refine wp_region_any c1 ?_
      split at h2
      · rename_i hc
        simp only [Bool.and_eq_true, beq_iff_eq, List.all_eq_true, List.mem_range, List.contains_iff_mem] at hc
        obtain ⟨⟨c4, c5⟩, c6⟩ := hc
        obtain ⟨l, h9, rfl⟩ := Option.map_eq_some_iff.1 h2
        have hpw := pairs_spec c4
        have := any_sound (Q := Q) hm hgl c2 c3 hG0 hD hDp hQ gs.length (ordOf gs) (Array.replicate ops.toArray.size false) st a { w with drawn := w.drawn + 1 } c6 (by simp) (hmem _ (fun k hk => ?_) c5) hpw hcl (runI_of h9 hr) hF.drew
        · rw [hgl] at this
          rw [hsz] at this ⊢
          exact this
        · simp only [ordOf, List.mem_append, List.mem_filter, List.mem_range] at hk
          rcases hk with h | h <;> exact h.1
      · simp only [cFork, Option.bind_eq_some_iff] at h2
        obtain ⟨⟨x, y⟩, _, h2⟩ := h2
        simp only at h2
        split at h2
        · rename_i hc
          obtain ⟨⟨d1, d2, d3⟩, d4, d5⟩ := hc
          simp only [Option.bind_eq_some_iff, Option.map_eq_some_iff] at h2
          obtain ⟨la, h3, lb, h4, lc, h5, rfl⟩ := h2
          have hlen : ops.length = ((ordOf gs).filter fun k => !(k == x || k == y || late (bmOf ops) x y k)).length + (((ordOf gs).filter fun k => !(k == x || k == y) && late (bmOf ops) x y k).length + 2) := by
            have h6 : (((ordOf gs).filter fun k => !(k == x || k == y || late (bmOf ops) x y k)) ++ x :: y :: ((ordOf gs).filter fun k => !(k == x || k == y) && late (bmOf ops) x y k)).Perm (List.range gs.length) :=
              (List.perm_ext_iff_of_nodup d1 List.nodup_range).2 fun k => by rw [List.mem_range]; exact ⟨d2 k, d3 k⟩
            have := h6.length_eq
            simp only [List.length_append, List.length_cons, List.length_range] at this
            omega
          have := fork_sound (Q := Q) (K := fun s => ∃ s2, WkN n0 s s2 ∧ K .norm s2) hm hgl c2 c3 hG0 hD hDp (fun st' a' w' ⟨s2, k1, k2⟩ hF' => hQ s2 a' w' k2 (k1 _ _ _ _ _ _ _ hG0 hF')) (x := x) (y := y)
            (r := (ordOf gs).filter fun k => !(k == x || k == y) && late (bmOf ops) x y k) (fun j hj => by
              simp only [List.mem_filter, Bool.and_eq_true, late, Bool.or_eq_true] at hj
              exact hj.2.2) _ _ (Array.replicate ops.toArray.size false) st a { w with drawn := w.drawn + 1 } rfl (by simp) (hmem _ d2 d3) (by simpa [List.Nodup] using d1) (pairs_spec d4) (pairs_spec d5) hcl
            (runI_of h3 (runR_imp (fun s hs => ⟨runI_of h4 hs.1, runI_of h5 hs.2⟩) hr)) hF.drew
          rw [← hlen] at this
          rw [hsz] at this ⊢
          exact this
        · cases h2
    · cases h2
theorem code_sound (hG0 : G0.length ≤ n0) (hD : DomOk w0 D) (hDp : DomOk w0 Dp) : ∀ (c : Code) (pc : PC) (K : PE → St → Prop) (Q : Exit → Act → World → Prop) (st : St) (a : Act) (w : World), cCode P nt n0 ms c = some pc → pwp P n0 pc K st → FInv nt w0 G0 D Dp st a w →
    (∀ e st' a' w', K e st' → FInv nt w0 G0 D Dp st' a' w' → Q e.toExit a' w') → c.wp P Q a w := by
  intro c
  induction c with
  | skip => intro pc K Q st a w h hp hF hQ; simp [cCode] at h; subst h; exact wp_skip (hQ _ _ _ _ hp hF)
  | region id ops draw =>
    intro pc K Q st a w h hp hF hQ
    simp only [cCode] at h
    obtain ⟨ops⟩ := ops
    exact reg_sound h hG0 hD hDp hp hF (fun st' a' w' hk hF' => hQ .norm st' a' w' hk hF') id
  | seq x y ihx ihy =>
    intro pc K Q st a w h hp hF hQ
    simp only [cCode, Option.bind_eq_some_iff, Option.map_eq_some_iff] at h
    obtain ⟨px, h1, py, h2, rfl⟩ := h
    refine wp_seq (ihx px _ _ st a w h1 hp hF ?_)
    intro e st' a' w' hk hF'
    cases e with
    | norm => obtain ⟨st2, k1, k2⟩ := hk; exact ihy py K Q st2 a' w' h2 k2 (k1 _ _ _ _ _ _ _ hG0 hF') hQ
    | exit id => exact hQ (.exit id) st' a' w' hk hF'
    | ret => exact hQ .ret st' a' w' hk hF'
  | cond cd x y ihx ihy =>
    intro pc K Q st a w h hp hF hQ
    simp only [cCode, Option.bind_eq_some_iff, Option.map_eq_some_iff] at h
    obtain ⟨p, h0, px, h1, py, h2, rfl⟩ := h
    obtain ⟨t, h3, h4, h5⟩ := hp
    obtain ⟨G, R, hFI⟩ := id hF
    have h6 := cPO_rel h0 hFI
    rw [h3] at h6
    refine wp_cond h6.inv_v ?_
    cases t with
    | true => obtain ⟨st2, k1, k2⟩ := h4 rfl; exact ihx px K Q st2 a w h1 k2 (k1 _ _ _ _ _ _ _ hG0 hF) hQ
    | false => obtain ⟨st2, k1, k2⟩ := h5 rfl; exact ihy py K Q st2 a w h2 k2 (k1 _ _ _ _ _ _ _ hG0 hF) hQ
  | block id b ih =>
    intro pc K Q st a w h hp hF hQ
    simp only [cCode, Option.map_eq_some_iff] at h
    obtain ⟨pb, h1, rfl⟩ := h
    refine wp_block (ih pb _ _ st a w h1 hp hF ?_)
    intro e st' a' w' hk hF'
    cases e with
    | norm => exact hQ .norm st' a' w' hk hF'
    | ret => exact hQ .ret st' a' w' hk hF'
    | exit i =>
      simp only [PE.inB] at hk
      show Exit.inBlock id Q (.exit i) a' w'
      simp only [Exit.inBlock]
      split at hk
      · rename_i hi; rw [if_pos hi]; exact hQ .norm st' a' w' hk hF'
      · rename_i hi; rw [if_neg hi]; exact hQ (.exit i) st' a' w' hk hF'
  | loop b ih =>
    intro pc K Q st a w h hp hF hQ
    simp only [cCode, Option.map_eq_some_iff] at h
    obtain ⟨pb, h1, rfl⟩ := h
    obtain ⟨I, n, st1, hI, hw, hrd⟩ := hp
    refine wp_loop_ghost (fun n a w => ∃ st, I n st ∧ FInv nt w0 G0 D Dp st a w) n ⟨st1, hI, hw _ _ _ _ _ _ _ hG0 hF⟩ ?_
    rintro n a w ⟨st, hI, hF⟩
    obtain ⟨st0, k0, hrd⟩ := hrd n st hI
    refine ih pb _ _ st0 a w h1 hrd (k0 _ _ _ _ _ _ _ hG0 hF) ?_
    intro e st' a' w' hk hF'
    cases e with
    | norm =>
      obtain ⟨m, st2, h2, h3, h5⟩ := hk
      exact ⟨m, h2, st2, h3, h5 _ _ _ _ _ _ _ hG0 hF'⟩
    | exit id => obtain ⟨st2, k1, k2⟩ := hk; exact hQ (.exit id) st2 a' w' k2 (k1 _ _ _ _ _ _ _ hG0 hF')
    | ret => obtain ⟨st2, k1, k2⟩ := hk; exact hQ .ret st2 a' w' k2 (k1 _ _ _ _ _ _ _ hG0 hF')
  | exit id => intro pc K Q st a w h hp hF hQ; simp [cCode] at h; subst h; exact wp_exit (hQ (.exit id) _ _ _ hp hF)
  | ret => intro pc K Q st a w h hp hF hQ; simp [cCode] at h; subst h; exact wp_ret (hQ .ret _ _ _ hp hF)
  | rangeFunc f ps asg bd _ _ => intro pc K Q st a w h; simp [cCode] at h
  | scope b _ => intro pc K Q st a w h; simp [cCode] at h
  | label l => intro pc K Q st a w h; simp [cCode] at h
  | goto l => intro pc K Q st a w h; simp [cCode] at h
  | refuse why => intro pc K Q st a w h; simp [cCode] at h

/-! ### results -/
inductive RV where
  | t (s : Slot)
  | c (s : Slot) (n : Nat) (ag : Bool)
def cRes (P : Program) : List ResultVar → Option (List RV)
  | [] => some []
  | .tmp t :: r => if t < 512 then (cRes P r).map (.t (slot t) :: ·) else none
  | .cell t ty :: r => if t < 512 then (P.info? ty).bind fun i => (isAgB P ty).bind fun ag => (cRes P r).map (.c (slot t) i.size ag :: ·) else none
/-- what is handed back; boxes ks stay boxes -/
def expoN (n0 : Nat) (bx : List (List PV)) : PV → PV
  | .pb b o => if n0 ≤ b then expoC bx (.pb b o) else .bad
  | .sb b s o n c => if n0 ≤ b then expoC bx (.sb b s o n c) else .bad
  | p => expoC bx p
def exC (n0 : Nat) (ks : List Nat) (bx : List (List PV)) : PV → PV := mapC ks (expoN n0 bx)
def exV (n0 : Nat) (ks : List Nat) (bx : List (List PV)) : PV → PV := mapV (exC n0 ks bx)
def RV.val (n0 : Nat) (ks : List Nat) (st : St) : RV → PV → Prop
  | .t s, v => v = exV n0 ks st.bx (st.s.get s)
  | .c s n ag, v => ∃ b off cs u, st.s.get s = .pb b off ∧ cs = ((st.bx.getD b []).drop off).take n ∧ cs.length = n ∧ (if ag then u = .agg cs else cs = [u]) ∧ v = exV n0 ks st.bx u
def resIs (n0 : Nat) (ks : List Nat) (st : St) : List RV → List PV → Prop
  | [], vs => vs = []
  | r :: rs, vs => ∃ v vs', vs = v :: vs' ∧ r.val n0 ks st v ∧ resIs n0 ks st rs vs'
def retP : List PV → PV
  | [v] => v
  | vs => .tup vs
/-- a cell told of with less: a slice's ownership, a box's capacity -/
def ownW : Own → Own → Prop
  | .lent, o => o = .lent
  | _, .lent => True
  | _, .none => True
  | .full, .full => True
  | _, _ => False
def wkC : PV → PV → Prop
  | .sl s es o, .sl s' es' o' => (s = s' ∨ es' = []) ∧ es = es' ∧ ownW o o'
  | .sb b s o n c, .sb b' s' o' n' c' => b = b' ∧ s = s' ∧ o = o' ∧ n = n' ∧ (c = c' ∨ c' = none)
  | p, p' => p = p'
def wkCs : List PV → List PV → Prop
  | [], [] => True
  | p :: r, p' :: r' => wkC p p' ∧ wkCs r r'
  | _, _ => False
/-- a value told of with less -/
def lessCap : PV → PV → Prop
  | .agg cs, .agg cs' => wkCs cs cs'
  | .fn f cs, .fn f' cs' => f = f' ∧ wkCs cs cs'
  | .fs f cs, .fs f' cs' => f = f' ∧ wkCs cs cs'
  | p, p' => wkC p p'
def lessL : List PV → List PV → Prop
  | [], [] => True
  | p :: r, p' :: r' => lessCap p p' ∧ lessL r r'
  | _, _ => False
/-- boxes may be told of in part -/
def lessBx : List (List PV) → List (List PV) → Prop
  | [], [] => True
  | c :: r, c' :: r' => c' <+: c ∧ lessBx r r'
  | _, _ => False
/-- the boxes that were lent stay in their places, but for those that are used up: there a new one may stand -/
def ksOk (n0 : Nat) (us ks : List Nat) (n : Nat) : Prop := n0 ≤ ks.length ∧ (∀ j, j < n0 → ks[j]? = some j ∨ (j ∈ us ∧ ∃ k, ks[j]? = some k ∧ n0 ≤ k)) ∧ ks.Nodup ∧ (∀ k ∈ ks, k < n) ∧ ∀ j, n0 ≤ j → ∀ k, ks[j]? = some k → n0 ≤ k
def resOf (n0 : Nat) (us : List Nat) (rs : List RV) (r : PV) (bx' : List (List PV)) (st : St) : Prop := ∃ ks vs vs', ksOk n0 us ks st.bx.length ∧ resIs n0 ks st rs vs ∧ lessL vs vs' ∧ r = retP vs' ∧ lessBx (ks.map fun k => (st.bx.getD k []).map (exC n0 ks st.bx)) bx'
def retV : List Value → Value
  | [v] => v
  | vs => .tuple (List.toArray vs)
def resV (tmps : Array Value) : ResultVar → Sem Value
  | .tmp t => pure (tmps.getD t undef)
  | .cell p t => do loadVar t (← asAddr (tmps.getD p undef))
theorem results_eq (fn : Func) (tmps : Array Value) : results fn tmps = (do
  let vs ← fn.results.mapM (resV tmps)
  pure (if h : vs.size = 1 then vs[0] else .tuple vs)) := by
  have : (fun (x : ResultVar) => (match x with
    | .tmp t => (pure (tmps.getD t undef) : Sem Value)
    | .cell a t => do loadVar t (← asAddr (tmps.getD a undef)))) = resV tmps := by
    funext x; cases x <;> rfl
  unfold results
  rw [← this]
  congr 1
theorem run_asAddr {w : World} (a : Addr) : (asAddr (.pointer (some a))).run P w = .ok a w := rfl
section
variable {G : List Nat} {R : List (Option Rec)} {st : St} {a : Act} {w : World}
theorem out_le (_hF : FI nt w0 G0 D Dp G R st a w) {Gk : List Nat} (hk : ∀ g ∈ Gk, g ∈ G) : (fenv w0 D Dp w G R st.rw).sh.Le (envB w (sinceB w0 w D Gk) (fun _ _ => False) Gk).sh := by
  have key : ∀ b e, inDom w0 w D G R st.rw b e → sinceB w0 w D Gk b e := fun b e h => by
    refine ⟨?_, fun hm => h.2.2.1 (hk b hm)⟩
    rcases Nat.lt_or_ge b w0.heap.size with h1 | h1
    · exact .inl ⟨h1, h.2.1 h1⟩
    · exact .inr ⟨h1, h.1⟩
  exact ⟨key, key, fun _ _ _ _ _ => rfl, Nat.le_refl _, fun _ _ h => (by cases h), fun _ _ _ _ _ h => h.elim, fun _ _ _ _ h => (by cases h)⟩
theorem exC_rel {us ks : List Nat} (hF : FI nt w0 G0 D Dp G R st a w) (hks : ksOk G0.length us ks st.bx.length) {p : PV} {u : Value} (h : Rel (fenv w0 D Dp w G R st.rw) p u) :
    Rel (envB w (sinceB w0 w D (lentG G ks)) (fun _ _ => False) (lentG G ks)) (exC G0.length ks st.bx p) u := by
  have hb : ∀ b ∈ ks, b < G.length := by rw [hF.bxn]; exact hks.2.2.2.1
  have hGs : ∀ g ∈ lentG G ks, g ∈ G := fun g hg => by
    obtain ⟨b, _, h⟩ := lentG_mem hb hg
    exact List.mem_of_getElem? h
  have hle := out_le hF hGs
  have hout : ∀ i g e, i ∉ ks → G0.length ≤ i → G[i]? = some g → sinceB w0 w D (lentG G ks) g e := fun i g e hi hi0 hg => by
    refine ⟨.inr ⟨?_, hF.glt g (List.mem_of_getElem? hg)⟩, fun hm => ?_⟩
    · rcases hF.gnew g (List.mem_of_getElem? hg) with h | h
      · exact h
      · exfalso
        obtain ⟨j, hj⟩ := List.getElem?_of_mem h
        have hjl := (List.getElem?_eq_some_iff.1 hj).1
        have h3 : (G.take G0.length)[j]? = some g := by rw [hF.g0]; exact hj
        rw [List.getElem?_take, if_pos hjl] at h3
        have hij := hF.gn _ _ _ hg h3
        omega
    · obtain ⟨b, h1, h2⟩ := lentG_mem hb hm
      exact hi (hF.gn _ _ _ hg h2 ▸ h1)
  unfold exC
  cases h with
  | v => exact .v _ _
  | sl _ sz es o A cap us hsz hl hp h1 hn hc hA hA0 hm ho =>
    have hp' : ∀ (j : Nat) p u, es.flatten[j]? = some p → us[j]? = some u → Rel (envB w (sinceB w0 w D (lentG G ks)) (fun _ _ => False) (lentG G ks)).sh p u := fun j p u x y => (hp j p u x y).mono hle
    cases o with
    | none =>
      refine .sl _ _ _ _ _ _ us hsz hl hp' h1 hn hc hA hA0 (fun hne => ?_) ho
      obtain ⟨b, o, e1, e2, e3⟩ := hm hne
      exact ⟨b, o, e1, hle.dom _ _ e2, e3⟩
    | full =>
      refine .sl _ _ _ _ _ _ us hsz hl hp' h1 hn hc hA hA0 (fun hne => ?_) ho
      obtain ⟨b, o, e1, e2, e3⟩ := hm hne
      exact ⟨b, o, e1, hle.dom _ _ e2, e3⟩
    | id k =>
      refine .sl _ _ _ _ _ _ us hsz hl hp' h1 hn hc hA hA0 (fun hne => ?_) trivial
      obtain ⟨b, o, e1, e2, e3⟩ := hm hne
      exact ⟨b, o, e1, hle.dom _ _ e2, e3⟩
    | lent => exact .bad _ _
  | fn _ f cs us hl hp =>
    cases cs with
    | nil => simp at hl; subst hl; exact .fn _ f [] [] rfl (fun _ _ _ h => by simp at h)
    | cons c r => exact .bad _ _
  | pt _ cs b o us hl hp h1 hm => exact .bad _ _
  | pb _ i off g hg =>
    have hg : G[i]? = some g := hg
    have hgl : i < st.bx.length := by
      have := (List.getElem?_eq_some_iff.1 hg).1
      rw [hF.bxn] at this; exact this
    simp only [mapC]
    cases hp : posOf ks i with
    | some j =>
      obtain ⟨g', h1, h2⟩ := lentG_get hb (posOf_some hp)
      rw [hg] at h2; simp at h2; subst h2
      exact .pb _ _ _ _ h1
    | none =>
      obtain ⟨us, vs, ty, hh, hR, h1c⟩ := hF.bxs.bx i g _ hg (List.getElem?_eq_getElem hgl)
      have hgd : st.bx.getD i [] = st.bx[i] := by rw [List.getD_eq_getElem?_getD, List.getElem?_eq_getElem hgl]; rfl
      simp only [expoN]
      split
      case isFalse => exact .bad _ _
      rename_i hi0
      simp only [expoC, hgd]
      have hR2 := (hR.drop off).sh1.mono hle
      refine .pt _ _ _ _ (us.drop off) hR2.1 hR2.2 (fun x hx => h1c x (List.mem_of_mem_drop hx)) fun hne => ⟨.inl (hout i g _ (posOf_none hp) hi0 hg), fun j x hx => ?_⟩
      show w.cell? _ = _
      rw [cell_of_row w g _ _ ty (0, 0) hh]
      rw [List.getElem?_drop] at hx
      exact app_get hx
  | sb _ i sz off n cap g c hg hs =>
    have hg : G[i]? = some g := hg
    simp only [mapC]
    cases hp : posOf ks i with
    | some j =>
      obtain ⟨g', h1, h2⟩ := lentG_get hb (posOf_some hp)
      rw [hg] at h2; simp at h2; subst h2
      exact .sb _ _ _ _ _ _ _ _ h1 hs
    | none =>
      simp only [expoN]
      split
      case isFalse => exact .bad _ _
      rename_i hi0
      simp only [expoC]
      exact sbSl_rel hF hle rfl (.inl rfl) (fun g' e hg' _ => hout i g' e (posOf_none hp) hi0 hg') (.sb _ _ _ _ _ _ _ _ hg hs)
  | agg _ cs us hl hp h1 => exact .bad _ _
  | tup _ cs us hl hp => exact .bad _ _
  | fs => exact .bad _ _
  | fp => exact .bad _ _
  | bad _ u => exact .bad _ _
theorem expo_rel {us ks : List Nat} (hF : FI nt w0 G0 D Dp G R st a w) (hks : ksOk G0.length us ks st.bx.length) {p : PV} {u : Value} (h : Rel (fenv w0 D Dp w G R st.rw) p u) :
    Rel (envB w (sinceB w0 w D (lentG G ks)) (fun _ _ => False) (lentG G ks)) (exV G0.length ks st.bx p) u := mapV_rel (fun _ _ h => exC_rel hF hks h) h
theorem wkC_rel {E : Env} (hE : ∀ b e, E.dom b e → E.pdom b e) {p p' : PV} {u : Value} (h : Rel E p u) (hl : wkC p p') : Rel E p' u := by
  unfold wkC at hl
  split at hl
  · rename_i s es o s' es' o'
    obtain ⟨hs, rfl, ho⟩ := hl
    obtain ⟨A, cap, us, rfl, hR, h1, hnc, hcm, hA, hA0, hm, hok, hsz⟩ := h.inv_sl
    refine .sl _ _ _ _ _ _ us (fun e he => ?_) hR.1 hR.2 h1 hnc hcm hA hA0 (fun hne => ?_) ?_
    · rcases hs with rfl | rfl
      · exact hsz e he
      · cases he
    · obtain ⟨b, off, e, hd, hcell⟩ := hm hne
      refine ⟨b, off, e, ?_, hcell⟩
      cases o <;> cases o' <;> first | exact hd | exact hE _ _ hd | cases ho
    · cases o <;> cases o' <;> first | exact hok | trivial | cases ho
  · obtain ⟨rfl, rfl, rfl, rfl, hc⟩ := hl
    rcases hc with rfl | rfl
    · exact h
    · obtain ⟨g, c, rfl, hg, k1, k2⟩ := h.inv_sb
      exact .sb _ _ _ _ _ _ g c hg ⟨fun k h => (by cases h), k2⟩
  · rw [← hl]; exact h
theorem wkCs_rel {E : Env} (hE : ∀ b e, E.dom b e → E.pdom b e) : ∀ {vs vs' : List PV} {us : List Value}, RelL E vs us → wkCs vs vs' → RelL E vs' us
  | [], [], us, h, _ => h
  | p :: r, p' :: r', us, h, hl => by
    have hus := h.1
    match us, hus with
    | u :: us, hus =>
      have h1 := h.2 0 p u rfl rfl
      have h2 : RelL E r us := ⟨by simpa using hus, fun j q x hq hx => h.2 (j + 1) q x (by simpa using hq) (by simpa using hx)⟩
      exact RelL.cons (wkC_rel hE h1 hl.1) (wkCs_rel hE h2 hl.2)
theorem lessCap_rel {E : Env} (hE : ∀ b e, E.dom b e → E.pdom b e) {p p' : PV} {u : Value} (h : Rel E p u) (hl : lessCap p p') : Rel E p' u := by
  unfold lessCap at hl
  split at hl
  · obtain ⟨us, rfl, hR, h1⟩ := h.inv_agg
    have := wkCs_rel hE hR hl
    exact .agg _ _ us this.1 this.2 h1
  · obtain ⟨rfl, hl⟩ := hl
    obtain ⟨us, rfl, hR⟩ := h.inv_fn
    have := wkCs_rel hE hR hl
    exact .fn _ _ _ us this.1 this.2
  · obtain ⟨rfl, hl⟩ := hl
    obtain ⟨b, o, us, rfl, hR, hb, hd, hc⟩ := h.inv_fs
    have := wkCs_rel hE hR hl
    exact .fs _ _ _ _ _ us this.1 this.2 hb hd hc
  · exact wkC_rel hE h hl
theorem lessL_rel {E : Env} (hE : ∀ b e, E.dom b e → E.pdom b e) : ∀ {vs vs' : List PV} {us : List Value}, RelL E vs us → lessL vs vs' → RelL E vs' us
  | [], [], us, h, _ => h
  | p :: r, p' :: r', us, h, hl => by
    have hus := h.1
    match us, hus with
    | u :: us, hus =>
      have h1 := h.2 0 p u rfl rfl
      have h2 : RelL E r us := ⟨by simpa using hus, fun j q x hq hx => h.2 (j + 1) q x (by simpa using hq) (by simpa using hx)⟩
      exact RelL.cons (lessCap_rel hE h1 hl.1) (lessL_rel hE h2 hl.2)
theorem lessBx_get : ∀ {bx bx' : List (List PV)}, lessBx bx bx' → bx.length = bx'.length ∧ ∀ (j : Nat) cs', bx'[j]? = some cs' → ∃ cs, bx[j]? = some cs ∧ cs' <+: cs
  | [], [], _ => ⟨rfl, fun _ _ h => by simp at h⟩
  | c :: r, c' :: r', h => by
    obtain ⟨h1, h2⟩ := lessBx_get h.2
    refine ⟨by simp [h1], fun j cs' hc => ?_⟩
    cases j with
    | zero => simp at hc; subst hc; exact ⟨c, rfl, h.1⟩
    | succ j => simp at hc; simpa using h2 j cs' hc
theorem boxes_out {us ks : List Nat} (hF : FI nt w0 G0 D Dp G R st a w) (hks : ksOk G0.length us ks st.bx.length) {bx' : List (List PV)} (hl : lessBx (ks.map fun k => (st.bx.getD k []).map (exC G0.length ks st.bx)) bx') :
    BoxesAt (envB w (sinceB w0 w D (lentG G ks)) (fun _ _ => False) (lentG G ks)) (lentG G ks) bx' := by
  have hb : ∀ b ∈ ks, b < G.length := by rw [hF.bxn]; exact hks.2.2.2.1
  obtain ⟨h1, h2⟩ := lessBx_get hl
  refine ⟨by rw [← h1]; simp, fun i g cs' hg hc => ?_, fun i j g hi hj => ?_⟩
  · obtain ⟨cs, h3, ⟨tl, h4⟩⟩ := h2 i cs' hc
    rw [List.getElem?_map, Option.map_eq_some_iff] at h3
    obtain ⟨k, hk, rfl⟩ := h3
    obtain ⟨g', h5, h6⟩ := lentG_get hb hk
    rw [hg] at h5; simp at h5; subst h5
    have hkl := hks.2.2.2.1 k (List.mem_of_getElem? hk)
    obtain ⟨us, vs, t, k1, k2, k3⟩ := hF.bxs.bx k g _ h6 (List.getElem?_eq_getElem hkl)
    have : st.bx.getD k [] = st.bx[k] := by simp [List.getD_eq_getElem?_getD, hkl]
    rw [this] at h4
    have hR : RelL (envB w (sinceB w0 w D (lentG G ks)) (fun _ _ => False) (lentG G ks)) (st.bx[k].map (exC G0.length ks st.bx)) us := by
      refine ⟨by simp [k2.1], fun j p u hp hu => ?_⟩
      rw [List.getElem?_map, Option.map_eq_some_iff] at hp
      obtain ⟨q, hq, rfl⟩ := hp
      exact exC_rel hF hks (k2.2 j q u hq hu)
    have hR2 := hR.take cs'.length
    rw [← h4, List.take_left' rfl] at hR2
    refine ⟨us.take cs'.length, us.drop cs'.length ++ vs, t, ?_, hR2, fun x hx => k3 x (List.mem_of_mem_take hx)⟩
    rw [← List.append_assoc, List.take_append_drop]; exact k1
  · have hil : i < ks.length := by have := (List.getElem?_eq_some_iff.1 hi).1; simpa using this
    have hjl : j < ks.length := by have := (List.getElem?_eq_some_iff.1 hj).1; simpa using this
    obtain ⟨g1, h3, h4⟩ := lentG_get hb (List.getElem?_eq_getElem hil)
    obtain ⟨g2, h5, h6⟩ := lentG_get hb (List.getElem?_eq_getElem hjl)
    rw [hi] at h3; rw [hj] at h5
    simp at h3 h5; subst h3; subst h5
    exact nodup_inj hks.2.2.1 (List.getElem?_eq_getElem hil) (by rw [hF.gn _ _ _ h4 h6]; exact List.getElem?_eq_getElem hjl)
theorem res_sound {us ks : List Nat} (hF : FI nt w0 G0 D Dp G R st a w) (hks : ksOk G0.length us ks st.bx.length) : ∀ (rs : List ResultVar) (qs : List RV) (vs : List PV), cRes P rs = some qs → resIs G0.length ks st qs vs →
    ∃ us, (rs.mapM (resV a.tmps)).run P w = .ok us w ∧ RelL (envB w (sinceB w0 w D (lentG G ks)) (fun _ _ => False) (lentG G ks)) vs us
  | [], qs, vs, h, hr => by
    simp [cRes] at h; subst h
    simp only [resIs] at hr; subst hr
    exact ⟨[], by simp, RelL.nil _⟩
  | .tmp t :: rs, qs, vs, h, hr => by
    simp only [cRes] at h
    split at h
    · rename_i ht
      simp only [Option.map_eq_some_iff] at h
      obtain ⟨qs', h1, rfl⟩ := h
      obtain ⟨v, vs', rfl, rfl, h3⟩ := hr
      obtain ⟨us, h4, h5⟩ := res_sound hF hks rs qs' vs' h1 h3
      refine ⟨a.tmps.getD t undef :: us, ?_, RelL.cons (expo_rel hF hks (hF.slots t ht)) h5⟩
      simp only [List.mapM_cons, resV, Sem.run_bind, Sem.run_pure, Result.andThen_ok, h4]
    · cases h
  | .cell p t :: rs, qs, vs, h, hr => by
    simp only [cRes] at h
    split at h
    · rename_i ht
      simp only [Option.bind_eq_some_iff, Option.map_eq_some_iff] at h
      obtain ⟨i, hi, ag, hag, qs', h1, rfl⟩ := h
      obtain ⟨v, vs', rfl, ⟨b, off, cs, u, k1, rfl, k3, k4, rfl⟩, h3⟩ := hr
      obtain ⟨us, h4, h5⟩ := res_sound hF hks rs qs' vs' h1 h3
      have r1 := hF.slots p ht
      rw [k1] at r1
      obtain ⟨g, e, hg⟩ := r1.inv_pb
      have hgl : b < st.bx.length := by
        have := (List.getElem?_eq_some_iff.1 hg).1
        rw [hF.bxn] at this; exact this
      obtain ⟨vs2, vsx, ty, hh, hR, h1c⟩ := hF.bxs.bx b g _ hg (List.getElem?_eq_getElem hgl)
      have hgd : st.bx.getD b [] = st.bx[b] := by rw [List.getD_eq_getElem?_getD, List.getElem?_eq_getElem hgl]; rfl
      rw [hgd] at k3 k4
      have hR2 := (hR.drop off).take i.size
      obtain ⟨x, hx1, hx2⟩ := rel_loaded (ag := ag) hR2 (fun x hx => h1c x (List.mem_of_mem_drop (List.mem_of_mem_take hx))) k4
      have hld := run_loadAt (P := P) (w := w) hag hi g off ((vs2.drop off).take i.size) (by rw [hR2.1, k3]) (fun j y hy => by
        rw [List.getElem?_take] at hy
        split at hy
        · rw [List.getElem?_drop] at hy
          rw [cell_of_row w g _ _ ty (0, 0) hh]
          exact app_get hy
        · cases hy) x hx1
      simp only [Instr.loadAt, Instr.sureAddr, Sem.run_bind, Sem.run_pure, Result.andThen_ok] at hld
      refine ⟨x :: us, ?_, RelL.cons (expo_rel hF hks hx2) h5⟩
      have hx3 : (resV a.tmps (.cell p t)).run P w = .ok x w := by simp only [resV, Sem.run_bind, e, run_asAddr, Result.andThen_ok, hld]
      simp only [List.mapM_cons, Sem.run_bind, Sem.run_pure, Result.andThen_ok, hx3, h4]
    · cases h
end

def initS : Nat → List PV → Slots → Slots
  | _, [], s => s
  | k, v :: r, s => initS (k + 1) r (s.put (slot k) v)
theorem initS_get : ∀ (args : List PV) (k : Nat) (s : Slots) (i : Nat), k + args.length ≤ 512 → i < 512 → (initS k args s).get (slot i) = if h : k ≤ i ∧ i < k + args.length then args[i - k]'(by omega) else s.get (slot i)
  | [], k, s, i, _, _ => by
    rw [dif_neg (by simp)]; rfl
  | v :: r, k, s, i, h, hi => by
    simp only [List.length_cons] at h
    simp only [initS]
    rw [initS_get r (k + 1) _ i (by omega) hi]
    by_cases h1 : k + 1 ≤ i ∧ i < k + 1 + r.length
    · rw [dif_pos h1, dif_pos (by simp only [List.length_cons]; omega)]
      have : i - k = (i - (k + 1)) + 1 := by omega
      simp only [this, List.getElem_cons_succ]
    · rw [dif_neg h1, Slots.get_put]
      by_cases h2 : i = k
      · subst h2
        rw [if_pos rfl, dif_pos (by simp)]
        simp
      · rw [if_neg (fun e => h2 (slot_inj hi (by omega) e)), dif_neg (by simp only [List.length_cons]; omega)]
def retK (n0 : Nat) (us : List Nat) (rs : List RV) (r : PV) (bx' : List (List PV)) : PE → St → Prop
  | .exit _, _ => False
  | _, st => resOf n0 us rs r bx' st
structure PFun where
  body : PC
  res : List RV
/-- a function's code; n0 boxes are lent to it; it lends boxes to the functions ms -/
def cFunB (P : Program) (n0 : Nat) (ms : List FuncId) (f : FuncId) : Option PFun :=
  (P.funcs[f]?).bind fun fn => fn.body.bind fun c => if fn.ntmps ≤ 512 then (cCode P fn.ntmps n0 ms c).bind fun pc => (cRes P fn.results.toList).map fun rs => ⟨pc, rs⟩ else none
def cFun (P : Program) (f : FuncId) : Option PFun := cFunB P 0 [] f
theorem pcalls_of {n0 : Nat} {ms : List FuncId} {f : FuncId} {pf : PFun} (hf : cFunB P n0 ms f = some pf) {args : List PV} {r : PV} {bx bx' : List (List PV)} (hn0 : bx.length = n0) (hn : (P.funcs[f]?.map (·.ntmps)).any (args.length ≤ ·) = true)
    {us : List Nat} (h : ∃ st0, WkN n0 ⟨initS 0 args .nil, bx, []⟩ st0 ∧ pwp P n0 pf.body (retK n0 us pf.res r bx') st0) : PCallsB P f us bx args r bx' := by
  obtain ⟨st0, hw0, h⟩ := h
  simp only [cFunB, Option.bind_eq_some_iff] at hf
  obtain ⟨fn, h1, c, h2, h3⟩ := hf
  split at h3
  · rename_i hnt
    simp only [Option.bind_eq_some_iff, Option.map_eq_some_iff] at h3
    obtain ⟨pc, h4, rs, h5, rfl⟩ := h3
    rw [h1] at hn
    simp at hn
    intro w D Dp G vs hD hDp hout hbx hv
    have hvl := hv.1
    have hGl : G.length = n0 := by rw [hbx.len, hn0]
    have hGlt : ∀ g ∈ G, g < w.heap.size := fun g hg => by
      obtain ⟨j, hj⟩ := List.getElem?_of_mem hg
      have hj2 : j < bx.length := by rw [← hbx.len]; exact (List.getElem?_eq_some_iff.1 hj).1
      obtain ⟨us, vs, t, h, _⟩ := hbx.bx j g _ hj (List.getElem?_eq_getElem hj2)
      exact (Array.getElem?_eq_some_iff.1 h).1
    refine calls_of_wp h1 h2 ?_
    have hle : (envB w D Dp G).Le (fenv w D Dp w G [] []) :=
      ⟨fun b e h => ⟨hD.lt b e h, fun _ => h, fun hm => (hout b hm e).1 h, fun _ _ _ h => by simp at h⟩, fun b e h => ⟨h.elim (hD.lt b e) (hDp.lt b e), fun _ => h, fun hm => h.elim (hout b hm e).1 (hout b hm e).2, fun _ _ _ h => by simp at h⟩,
       fun _ _ _ _ _ => rfl, Nat.le_refl _, fun _ _ h => h, fun _ _ _ _ _ h => h.elim, fun _ g cs t _ h => ⟨cs, h, rfl⟩⟩
    have hF : FInv fn.ntmps w G D Dp ⟨initS 0 args .nil, bx, []⟩ { tmps := vs.toArray ++ Array.replicate (fn.ntmps - vs.toArray.size) undef, defers := [] } w := by
      refine ⟨G, [], Kept.refl _ _, List.take_length, fun g hg => .inr hg, rfl, by simp; omega, fun i hi => ?_, ⟨hbx.len, fun i g cs hg hc => ?_, hbx.gn⟩, rfl, fun k r n h => by simp at h, fun k k' r r' h => by simp at h⟩
      · show Rel _ ((initS 0 args .nil).get (slot i)) _
        rw [initS_get args 0 .nil i (by omega) hi]
        by_cases h6 : i < args.length
        · rw [dif_pos (by omega)]
          have h7 : i < vs.length := by omega
          have : (vs.toArray ++ Array.replicate (fn.ntmps - vs.toArray.size) undef).getD i undef = vs[i] := by
            rw [Array.getD_eq_getD_getElem?, Array.getElem?_append_left (by simpa using h7)]
            simp [h7]
          rw [this]
          exact (hv.2 i _ _ (by rw [List.getElem?_eq_getElem h6]; rfl) (List.getElem?_eq_getElem h7)).mono hle
        · rw [dif_neg (by omega)]
          exact .bad _ _
      · obtain ⟨us, vs', t, k1, k2, k3⟩ := hbx.bx i g cs hg hc
        exact ⟨us, vs', t, k1, k2.mono hle, k3⟩
    refine code_sound (Nat.le_of_eq hGl) hD hDp c pc _ _ _ _ _ h4 h (hw0 _ _ _ _ _ _ _ (Nat.le_of_eq hGl) hF) ?_
    intro e st' a' w' hk ⟨G', R, hF'⟩
    have fin : resOf n0 us rs r bx' st' → a'.defers = [] ∧ ∃ v, (results fn a'.tmps).run P w' = .ok v w' ∧ ∃ u G1 N, Ending.returned v = .returned u ∧ G1.length = G.length ∧ (∀ (j g : Nat), G1[j]? = some g → G[j]? = some g ∨ (j ∈ us ∧ w.heap.size ≤ g)) ∧ (∀ g ∈ N, w.heap.size ≤ g) ∧
        BoxesAt (envB w' (sinceB w w' D (G1 ++ N)) (fun _ _ => False) (G1 ++ N)) (G1 ++ N) bx' ∧ Rel (envB w' (sinceB w w' D (G1 ++ N)) (fun _ _ => False) (G1 ++ N)) r u ∧ Kept G w w' := by
      rintro ⟨ks, ps, ps', hks, hps, hll, rfl, hlb⟩
      rw [← hGl] at hks hps hlb
      have hb : ∀ b ∈ ks, b < G'.length := by rw [hF'.bxn]; exact hks.2.2.2.1
      obtain ⟨vs1, hr, hR⟩ := res_sound hF' hks fn.results.toList rs ps h5 hps
      have hR := lessL_rel (fun _ _ h => Or.inl h) hR hll
      have hbo := boxes_out hF' hks hlb
      have hGk : lentG G' ks = lentG G' (ks.take G.length) ++ lentG G' (ks.drop G.length) := by
        rw [← List.map_append, List.take_append_drop]
      -- a box that was not lent is new
      have hnew : ∀ k g, G.length ≤ k → G'[k]? = some g → w.heap.size ≤ g := fun k g hk hg => by
        rcases hF'.gnew g (List.mem_of_getElem? hg) with h9 | h9
        · exact h9
        · exfalso
          obtain ⟨j, hj⟩ := List.getElem?_of_mem h9
          have hjl := (List.getElem?_eq_some_iff.1 hj).1
          have h10 : (G'.take G.length)[j]? = some g := by rw [hF'.g0]; exact hj
          rw [List.getElem?_take, if_pos hjl] at h10
          have hbj := hF'.gn _ _ _ hg h10
          omega
      have hG1 : ∀ (j g : Nat), (lentG G' (ks.take G.length))[j]? = some g → G[j]? = some g ∨ (j ∈ us ∧ w.heap.size ≤ g) := fun j g hg => by
        rw [List.getElem?_map, List.getElem?_take] at hg
        split at hg
        · rename_i hj
          rw [Option.map_eq_some_iff] at hg
          obtain ⟨k, hk, rfl⟩ := hg
          have hkl := hb k (List.mem_of_getElem? hk)
          have hkg : G'[k]? = some (G'.getD k 0) := by simp [List.getD_eq_getElem?_getD, hkl]
          rcases hks.2.1 j hj with h7 | ⟨h7, k', h8, h9⟩
          · rw [hk] at h7; simp at h7; subst h7
            left
            have h10 : (G'.take G.length)[k]? = G[k]? := by rw [hF'.g0]
            rw [← h10, List.getElem?_take, if_pos hj]; exact hkg
          · rw [hk] at h8; simp at h8; subst h8
            exact .inr ⟨h7, hnew k _ h9 hkg⟩
        · cases hg
      have hNew : ∀ g ∈ lentG G' (ks.drop G.length), w.heap.size ≤ g := fun g hg => by
        obtain ⟨j, hj⟩ := List.getElem?_of_mem hg
        rw [List.getElem?_map, List.getElem?_drop, Option.map_eq_some_iff] at hj
        obtain ⟨k, hk, rfl⟩ := hj
        have hkl := hb k (List.mem_of_getElem? hk)
        exact hnew k _ (hks.2.2.2.2 _ (by omega) k hk) (by simp [List.getD_eq_getElem?_getD, hkl])
      rw [hGk] at hR hbo
      have hres : (results fn a'.tmps).run P w' = .ok (retV vs1) w' := by
        rw [results_eq, Sem.run_bind]
        have : (fn.results.mapM (resV a'.tmps)).run P w' = .ok vs1.toArray w' := by
          rw [Array.mapM_eq_mapM_toList, Sem.run_map, hr]; rfl
        rw [this, Result.andThen_ok]
        match vs1 with
        | [] => rfl
        | [u] => rfl
        | u :: x :: us => rfl
      refine ⟨hF'.defers, _, hres, _, _, _, rfl, by rw [List.length_map, List.length_take]; have := hks.1; omega, hG1, hNew, hbo, ?_, hF'.hB⟩
      have hl := hR.1
      match ps', vs1, hl with
      | [], [], _ => exact .tup _ _ [] hR.1 hR.2
      | [p], [u], _ => exact hR.2 0 p u rfl rfl
      | p :: p2 :: ps, u :: u2 :: us, _ => exact .tup _ _ _ hR.1 hR.2
    cases e with
    | norm => exact fin hk
    | ret => exact fin hk
    | exit id => exact hk.elim
  · cases h3
end
end Go.Proofs.Ytdkancgcefklfaa
