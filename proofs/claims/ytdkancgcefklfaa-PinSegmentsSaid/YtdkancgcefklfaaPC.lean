/-
  Each operation over plain views does what the operation of the program does.
-/
import Derived.Test.YtdkancgcefklfaaPB
namespace Go.Proofs.Ytdkancgcefklfaa
open Go.RowKit
section
variable {P : Program} {nt n0 : Nat} {ms : List FuncId} {o : Oper} {i : PI}

theorem sound_mov (x : Operand) (ho : o.op = .move x ∨ o.op = .assign x) (h : ((cDst nt o.dst).bind fun d => (cPO x).map (.mov d)) = some i) : SoundI P nt n0 o i := by
  simp only [Option.bind_eq_some_iff, Option.map_eq_some_iff] at h
  obtain ⟨d, h1, p, h2, rfl⟩ := h
  obtain ⟨t, h3, rfl, h4, h5⟩ := cDst_spec h1
  exact soundQ h3 rfl h4 h5 (fun _ _ h => h) fun w0 G0 D Dp G R st a w v _ _ hF hy => ex_mov ho h2 hF hy
theorem sound_pick (c x y : Operand) (ho : o.op = .pick c x y) (h : ((cDst nt o.dst).bind fun d => (cPO c).bind fun p => (cPO x).bind fun q => (cPO y).map fun r => PI.pick d p q r) = some i) : SoundI P nt n0 o i := by
  simp only [Option.bind_eq_some_iff, Option.map_eq_some_iff] at h
  obtain ⟨d, h1, p, h2, q, h3, r, h4, rfl⟩ := h
  obtain ⟨t, h5, rfl, h6, h7⟩ := cDst_spec h1
  exact soundQ h5 rfl h6 h7 (fun _ _ h => h) fun w0 G0 D Dp G R st a w v _ _ hF hy => ex_pick ho h2 h3 h4 hF hy
theorem sound_new (t : TypeId) (ho : o.op = .alloc t) (h : ((cDst nt o.dst).bind fun d => (cZero P t).map (PI.new d)) = some i) : SoundI P nt n0 o i := by
  simp only [Option.bind_eq_some_iff, Option.map_eq_some_iff] at h
  obtain ⟨d, h1, zs, h2, rfl⟩ := h
  obtain ⟨t', h5, rfl, h6, h7⟩ := cDst_spec h1
  obtain ⟨j, z, k1, k2, k3, k4, k5⟩ := cZero_spec h2
  rintro w0 G0 D Dp st st' a w _ _ _ ⟨G, R, hF⟩ rfl K Q hK
  exact wp_new ho h5 h6 h7 k1 k2 k3 k5 hF hK
theorem sound_box (t : TypeId) (x : Operand) (ho : o.op = .box t x) (h : ((cDst nt o.dst).bind fun d => (cPO x).map (PI.box d)) = some i) : SoundI P nt n0 o i := by
  simp only [Option.bind_eq_some_iff, Option.map_eq_some_iff] at h
  obtain ⟨d, h1, p, h2, rfl⟩ := h
  obtain ⟨t', h5, rfl, h6, h7⟩ := cDst_spec h1
  rintro w0 G0 D Dp st st' a w _ _ _ ⟨G, R, hF⟩ ⟨hc, rfl⟩ K Q hK
  exact wp_box ho h5 h6 h7 h2 hF hc hK
theorem sound_bld (t : TypeId) (ps : Array (Nat × Operand)) (ho : o.op = .build t ps) (h : ((cDst nt o.dst).bind fun d => (cZero P t).bind fun zs => (cPlaces P t).bind fun pl => (cParts (pl.toArray[·]?) ps.toList).map (PI.bld d zs)) = some i) : SoundI P nt n0 o i := by
  simp only [Option.bind_eq_some_iff, Option.map_eq_some_iff] at h
  obtain ⟨d, h1, zs, h2, pl, h3, qs, h4, rfl⟩ := h
  obtain ⟨t', h5, rfl, h6, h7⟩ := cDst_spec h1
  obtain ⟨j, z, k1, k2, k3, k4, k5⟩ := cZero_spec h2
  obtain ⟨ps⟩ := ps
  have hpl : ∀ parts, Instr.fill (fun i => pl.toArray[i]?) z.cells parts = some (((Instr.fill (fun i => pl.toArray[i]?) z.cells parts)).getD #[]) → P.built t parts = Instr.fill (fun i => pl.toArray[i]?) z.cells parts := by
    intro parts hsome
    unfold cPlaces at h3
    split at h3
    · rename_i n e hu
      simp only [Option.map_eq_some_iff] at h3
      obtain ⟨ie, hie, rfl⟩ := h3
      simp only [Program.built, k1, hu, k2, hie]
      have mono : ∀ (parts : List (Nat × Value)) (cells : Array Value), (Instr.fill (fun i => ((List.range n).map fun i => (i * ie.size, ie.size)).toArray[i]?) cells parts).isSome = true → Instr.fill (fun i => some (i * ie.size, ie.size)) cells parts = Instr.fill (fun i => ((List.range n).map fun i => (i * ie.size, ie.size)).toArray[i]?) cells parts := by
        intro parts
        induction parts with
        | nil => intro cells _; rfl
        | cons q r ih =>
          obtain ⟨k, x⟩ := q
          intro cells hs
          by_cases hk : k < n
          · have : ((List.range n).map fun i => (i * ie.size, ie.size)).toArray[k]? = some (k * ie.size, ie.size) := by simp [hk]
            simp only [Instr.fill, this] at hs ⊢
            split
            · rfl
            · rename_i hc
              rw [if_neg hc] at hs
              exact ih _ hs
          · have : ((List.range n).map fun i => (i * ie.size, ie.size)).toArray[k]? = none := by simp; omega
            simp only [Instr.fill, this] at hs
            cases hs
      exact mono parts z.cells (by rw [hsome]; rfl)
    · rename_i fields hu
      simp only [Program.built, k1, hu, k2, h3]
    · cases h3
  refine soundQ h5 rfl h6 h7 (fun _ _ h => h) fun w0 G0 D Dp G R st a w v _ _ hF hy => ?_
  obtain ⟨cs, hf, rfl⟩ := hy
  subst k5
  obtain ⟨us, hf, hR, h1c⟩ := fill_rel (E := fenv w0 D Dp w G R st.rw) (st := st) (a := a) (fun x p hp => cPO_rel hp hF) (fun i => pl.toArray[i]?) ps qs _ cs z.cells.toList h4 hf (rel_map_cvc _ _) (fun x hx => (List.all_eq_true.1 k3) x hx)
  rw [Array.toArray_toList] at hf
  have hb : P.built t (ps.map fun (i, x) => (i, a.eval x)) = some us.toArray := by rw [hpl _ (by rw [hf]; rfl)]; exact hf
  have hr := run_build (P := P) w t ((List.toArray ps).map fun (i, x) => (i, a.eval x)) us.toArray (by simpa using hb)
  refine runs_same (u := .agg us.toArray) ?_ (.agg _ cs us hR.1 hR.2 h1c)
  simp only [execOp, ho, Sem.run_bind, hr, Result.andThen_ok, Sem.run_pure]
theorem sound_lit (t : TypeId) (n : Nat) (ps : Array (Nat × Operand)) (ho : o.op = .buildSlice t n ps) (h : ((cDst nt o.dst).bind fun d => match P.underlying t with
    | some (.slice e) => (P.info? e).bind fun i => (cZero P e).bind fun zs => if n * i.size ≤ 16777216 ∧ 0 < i.size then (cElems ps.toList).map (PI.lit d i.size zs n) else none
    | _ => none) = some i) : SoundI P nt n0 o i := by
  simp only [Option.bind_eq_some_iff] at h
  obtain ⟨d, h1, h2⟩ := h
  obtain ⟨t', h5, rfl, h6, h7⟩ := cDst_spec h1
  split at h2
  · rename_i e hu
    simp only [Option.bind_eq_some_iff] at h2
    obtain ⟨j, h3, zs, h4, h8⟩ := h2
    split at h8
    · rename_i hc
      simp only [Option.map_eq_some_iff] at h8
      obtain ⟨qs, h9, rfl⟩ := h8
      obtain ⟨j', z, k1, k2, k3, k4, k5⟩ := cZero_spec h4
      rw [h3] at k1
      simp at k1; subst k1
      obtain ⟨ps⟩ := ps
      exact soundQ h5 rfl h6 h7 (fun _ _ h => h) fun w0 G0 D Dp G R st a w v _ _ hF hy => hy.elim (fun ⟨es, _, hy⟩ => ex_lit ho h9 hu h3 k2 k4 k3 k5 hc.1 hc.2 hF ⟨es, hy⟩) (fun ⟨x, f, cs, _, hy⟩ => ex_litF ho h9 hu h3 k2 k4 hF ⟨x, f, cs, hy⟩)
    · cases h8
  · cases h2
theorem sound_ld (t : TypeId) (x : Operand) (ho : o.op = .load t x) (h : ((cDst nt o.dst).bind fun d => (P.info? t).bind fun i => (isAgB P t).bind fun ag => (cPO x).map (PI.ld d i.size ag)) = some i) : SoundI P nt n0 o i := by
  simp only [Option.bind_eq_some_iff, Option.map_eq_some_iff] at h
  obtain ⟨d, h1, j, h2, ag, h3, p, h4, rfl⟩ := h
  obtain ⟨t', h5, rfl, h6, h7⟩ := cDst_spec h1
  exact soundQ h5 rfl h6 h7 (fun _ _ h => h) fun w0 G0 D Dp G R st a w v _ _ hF hy => ex_ld ho h4 h3 h2 hF hy
theorem sound_st (t : TypeId) (x y : Operand) (ho : o.op = .store t x y) (h : (if o.dst = none then (P.info? t).bind fun i => (cPO x).bind fun p => (cPO y).map fun q => PI.st p q i.size else none) = some i) : SoundI P nt n0 o i := by
  split at h
  · rename_i hd
    simp only [Option.bind_eq_some_iff, Option.map_eq_some_iff] at h
    obtain ⟨j, h1, p, h2, q, h3, rfl⟩ := h
    rintro w0 G0 D Dp st st' a w _ _ _ ⟨G, R, hF⟩ ⟨b, off, old, k1, k2, k3, k4, k5, rfl⟩ K Q hK
    exact wp_st ho hd h2 h3 h1 hF k1 k2 k3 k4 k5 hK
  · cases h
theorem vals_inj : ∀ {a b : List Value}, a.map PV.v = b.map PV.v → a = b
  | [], [], _ => rfl
  | [], _ :: _, h => by cases h
  | _ :: _, [], h => by cases h
  | x :: a, y :: b, h => by
    simp only [List.map_cons, List.cons.injEq, PV.v.injEq] at h
    rw [h.1, vals_inj h.2]
theorem sound_bin (op : BinOp) (t t' : TypeId) (x y : Operand) (ho : o.op = .binOp op t x y t') (h : ((cDst nt o.dst).bind fun d => (cPO x).bind fun p => (cPO y).bind fun q => cBin P d op t p q) = some i) : SoundI P nt n0 o i := by
  simp only [Option.bind_eq_some_iff] at h
  obtain ⟨d, h1, p, h2, q, h3, h4⟩ := h
  obtain ⟨t', h5, rfl, h6, h7⟩ := cDst_spec h1
  have hv : ∀ {st : St} {p : PO} {x : Value}, st.ev p = .v x → st.ev p = .v x := fun h => h
  have ar : ∀ k, op = .add ∨ op = .sub ∨ op = .mul → i = .ar (slot t') op k p q → SoundI P nt n0 o i := by
    rintro k hop rfl
    refine soundQ h5 rfl h6 h7 (fun _ _ h => h) fun w0 G0 D Dp G R st a w v _ _ hF hy => ?_
    obtain ⟨m, n, e1, e2, e3, rfl⟩ := hy
    exact ex_bin ho h2 h3 hF e1 e2 (guard_int _ _ _ _ _ _ _ _) (run_ar op hop t k m n e3)
  have dv : ∀ k, op = .quo ∨ op = .rem → i = .dv (slot t') op k p q → SoundI P nt n0 o i := by
    rintro k hop rfl
    refine soundQ h5 rfl h6 h7 (fun _ _ h => h) fun w0 G0 D Dp G R st a w v _ _ hF hy => ?_
    obtain ⟨m, n, e1, e2, e3, e4⟩ := hy
    rcases hop with rfl | rfl
    · obtain ⟨e4, rfl⟩ := e4
      exact ex_bin ho h2 h3 hF e1 e2 (guard_int _ _ _ _ _ _ _ _) (run_dv .quo (.inl rfl) t k m n e3 (fun _ => e4))
    · obtain rfl := e4
      exact ex_bin ho h2 h3 hF e1 e2 (guard_int _ _ _ _ _ _ _ _) (run_dv .rem (.inr rfl) t k m n e3 (fun h => by cases h))
  have shf : ∀ k, op = .shl ∨ op = .shr → i = .sh (slot t') op k p q → SoundI P nt n0 o i := by
    rintro k hop rfl
    refine soundQ h5 rfl h6 h7 (fun _ _ h => h) fun w0 G0 D Dp G R st a w v _ _ hF hy => ?_
    obtain ⟨j, m, n, e1, e2, e3, e4, e5⟩ := hy
    rcases hop with rfl | rfl
    · obtain rfl := e5
      exact ex_bin ho h2 h3 hF e1 e2 (guard_int _ _ _ _ _ _ _ _) (run_sh .shl (.inl rfl) t k j m n e3 e4)
    · obtain rfl := e5
      exact ex_bin ho h2 h3 hF e1 e2 (guard_int _ _ _ _ _ _ _ _) (run_sh .shr (.inr rfl) t k j m n e3 e4)
  have cm : op = .eql ∨ op = .neq ∨ op = .lss ∨ op = .leq ∨ op = .gtr ∨ op = .geq → i = .cmp (slot t') op p q → SoundI P nt n0 o i := by
    rintro hop rfl
    refine soundQ h5 rfl h6 h7 (fun _ _ h => h) fun w0 G0 D Dp G R st a w v _ _ hF hy => ?_
    obtain ⟨k, m, n, e1, e2, rfl⟩ := hy
    exact ex_bin ho h2 h3 hF e1 e2 (guard_int _ _ _ _ _ _ _ _) (run_cmp op hop t k m n)
  have sq : ∀ neg, op = (if neg then .neq else .eql) → i = .seq (slot t') neg p q → SoundI P nt n0 o i := by
    rintro neg hop rfl
    refine soundQ h5 rfl h6 h7 (fun _ _ h => h) fun w0 G0 D Dp G R st a w v _ _ hF hy => ?_
    obtain ⟨m, n, e1, e2, rfl⟩ := hy
    exact ex_bin ho h2 h3 hF e1 e2 (guard_str _ _ _ _ _ _) (hop ▸ run_seq neg t m n)
  have bq : P.underlying t = some .bool → ∀ neg, op = (if neg then .neq else .eql) → i = .beq (slot t') neg p q → SoundI P nt n0 o i := by
    rintro hu neg hop rfl
    refine soundQ h5 rfl h6 h7 (fun _ _ h => h) fun w0 G0 D Dp G R st a w v _ _ hF hy => ?_
    obtain ⟨m, n, e1, e2, rfl⟩ := hy
    exact ex_bin ho h2 h3 hF e1 e2 (guard_bool _ _ _ _ _ _) (hop ▸ run_beq neg hu m n)
  have aq : ∀ neg, op = (if neg then .neq else .eql) → (if P.eqGuardType P.depth t = false then (flatK P t).map fun ks => PI.aeq (slot t') neg ks p q else none) = some i → SoundI P nt n0 o i := by
    rintro neg hop hi
    split at hi
    · rename_i hg
      simp only [Option.map_eq_some_iff] at hi
      obtain ⟨ks, hks, rfl⟩ := hi
      refine soundQ h5 rfl h6 h7 (fun _ _ h => h) fun w0 G0 D Dp G R st a w v _ _ hF hy => ?_
      obtain ⟨m, n, c, e1, e2, k1, k2, hc, rfl⟩ := hy
      obtain ⟨ms, rfl, _⟩ := kOk_vals k1
      obtain ⟨ns, rfl, _⟩ := kOk_vals k2
      have r1 := cPO_rel h2 hF
      have r2 := cPO_rel h3 hF
      rw [e1] at r1
      rw [e2] at r2
      obtain ⟨us, f1, g1, _⟩ := r1.inv_agg
      obtain ⟨vs, f2, g2, _⟩ := r2.inv_agg
      rw [relL_vals g1] at f1
      rw [relL_vals g2] at f2
      have hcc : ∀ w : World, (Op.equal t (.agg ms.toArray) (.agg ns.toArray)).run P w = .ok c w := fun w => by
        obtain ⟨c', h8, h9⟩ := eq_flat hks k1 k2 w
        have : c' = c := by
          have h10 : (ms.map PV.v = ns.map PV.v) ↔ ms = ns := by
            refine ⟨fun h => ?_, fun h => by rw [h]⟩
            exact vals_inj h
          cases c <;> cases c' <;> simp_all
        rw [← this]; exact h8
      refine runs_same (u := .bool (neg != c)) ?_ (.v _ _)
      have hrun := run_aeq (P := P) (w := w) neg t ms.toArray ns.toArray c hcc
      rw [← hop] at hrun
      simp only [execOp, ho, f1, f2, Sem.run_bind, guard_agg x y ms.toArray ns.toArray hg, Result.andThen_ok, hrun, Sem.run_pure]
    · cases hi
  unfold cBin at h4
  split at h4
  all_goals first
    | (simp only [Option.some.injEq] at h4; exact ar _ (by simp) h4.symm)
    | (simp only [Option.some.injEq] at h4; exact dv _ (by simp) h4.symm)
    | (simp only [Option.some.injEq] at h4; exact cm (by simp) h4.symm)
    | (simp only [Option.some.injEq] at h4; exact shf _ (by simp) h4.symm)
    | (simp only [Option.some.injEq] at h4; exact sq _ (by simp) h4.symm)
    | (simp only [Option.some.injEq] at h4; exact bq (by assumption) false (by simp) h4.symm)
    | (simp only [Option.some.injEq] at h4; exact bq (by assumption) true (by simp) h4.symm)
    | exact aq false (by simp) h4
    | exact aq true (by simp) h4
    | (simp only [Option.some.injEq] at h4; subst h4
       refine soundQ h5 rfl h6 h7 (fun _ _ h => h) fun w0 G0 D Dp G R st a w v _ _ hF hy => ?_
       obtain ⟨m, n, e1, e2, e3, rfl⟩ := hy
       exact ex_bin ho h2 h3 hF e1 e2 (guard_str _ _ _ _ _ _) (run_cat t m n e3))
    | (simp only [Option.some.injEq] at h4; subst h4
       refine soundQ h5 rfl h6 h7 (fun _ _ h => h) fun w0 G0 D Dp G R st a w v _ _ hF hy => ?_
       obtain ⟨m, n, e1, e2, rfl⟩ := hy
       exact ex_bin ho h2 h3 hF e1 e2 (guard_str _ _ _ _ _ _) (run_scmp _ (by simp) t m n))
    | cases h4
theorem sound_not (t : TypeId) (x : Operand) (ho : o.op = .unOp .not t x) (h : ((cDst nt o.dst).bind fun d => (cPO x).map (PI.not d)) = some i) : SoundI P nt n0 o i := by
  simp only [Option.bind_eq_some_iff, Option.map_eq_some_iff] at h
  obtain ⟨d, h1, p, h2, rfl⟩ := h
  obtain ⟨t', h5, rfl, h6, h7⟩ := cDst_spec h1
  exact soundQ h5 rfl h6 h7 (fun _ _ h => h) fun w0 G0 D Dp G R st a w v _ _ hF hy => ex_not ho h2 hF hy
theorem sound_conv (s t : TypeId) (x : Operand) (ho : o.op = .convert s t x) (h : ((cDst nt o.dst).bind fun d => (cPO x).bind fun p => cConv P d s t p) = some i) : SoundI P nt n0 o i := by
  simp only [Option.bind_eq_some_iff] at h
  obtain ⟨d, h1, p, h2, h3⟩ := h
  obtain ⟨t', h5, rfl, h6, h7⟩ := cDst_spec h1
  unfold cConv at h3
  split at h3
  · rename_i k hs ht
    simp at h3; subst h3
    exact soundQ h5 rfl h6 h7 (fun _ _ h => h) fun w0 G0 D Dp G R st a w v _ _ hF hy => ex_cvi ho h2 ⟨_, hs⟩ ht hF hy
  · rename_i e hs ht
    split at h3
    · rename_i hu
      simp at h3; subst h3
      exact soundQ h5 rfl h6 h7 (fun _ _ h => h) fun w0 G0 D Dp G R st a w v _ _ hF hy => ex_cbs ho h2 hs (isU8_spec hu) ht hF hy
    · cases h3
  · rename_i e hs ht
    split at h3
    · rename_i hu
      simp at h3; subst h3
      exact soundQ h5 rfl h6 h7 (fun _ _ h => h) fun w0 G0 D Dp G R st a w v _ _ hF hy => ex_csb ho h2 hs ht (isU8_spec hu) hF hy
    · cases h3
  · cases h3
theorem sound_slice (t : TypeId) (x : Operand) (lo hi mx : Option Operand) (ho : o.op = .slice t x lo hi mx) (h : ((cDst nt o.dst).bind fun d => (cPO x).bind fun p => (cPOo lo).bind fun l => (cPOo hi).bind fun h => (cPOo mx).bind fun m => match P.underlying t with
    | some (.slice e) => (P.info? e).bind fun i => if 0 < i.size ∧ (mx.isSome → hi.isSome) then some (PI.slc d p l h m i.size) else none
    | some .string => if mx.isNone then some (PI.sls d p l h) else none
    | _ => none) = some i) : SoundI P nt n0 o i := by
  simp only [Option.bind_eq_some_iff] at h
  obtain ⟨d, h1, p, h2, l, h3, hh, h4, m, h8, h9⟩ := h
  obtain ⟨t', h5, rfl, h6, h7⟩ := cDst_spec h1
  split at h9
  · rename_i e hu
    simp only [Option.bind_eq_some_iff] at h9
    obtain ⟨j, hj, h9⟩ := h9
    split at h9
    · rename_i hc
      simp at h9; subst h9
      exact soundQ h5 rfl h6 h7 (fun _ _ h => h) fun w0 G0 D Dp G R st a w v hD hDp hF hy => ex_slc ho h2 h3 h4 h8 hu hj hc.2 hc.1 hD hDp hF hy
    · cases h9
  · rename_i hu
    split at h9
    · rename_i hc
      simp at h9; subst h9
      obtain rfl : mx = none := by simpa using hc
      exact soundQ h5 rfl h6 h7 (fun _ _ h => h) fun w0 G0 D Dp G R st a w v _ _ hF hy => ex_sls ho h2 h3 h4 hu hF hy
    · cases h9
  · cases h9
theorem sound_fa (s : TypeId) (x : Operand) (f : Nat) (ho : o.op = .fieldAddr s x f) (h : ((cDst nt o.dst).bind fun d => (cPO x).bind fun p => match P.underlying s with
    | some (.struct fs) => (fs[f]?).bind fun fd => (P.info? fd.type).bind fun i => if i.size ≠ 0 then some (PI.fa d p fd.offset) else none
    | _ => none) = some i) : SoundI P nt n0 o i := by
  simp only [Option.bind_eq_some_iff] at h
  obtain ⟨d, h1, p, h2, h3⟩ := h
  obtain ⟨t', h5, rfl, h6, h7⟩ := cDst_spec h1
  split at h3
  · rename_i fs hu
    simp only [Option.bind_eq_some_iff] at h3
    obtain ⟨fd, h4, j, h8, h9⟩ := h3
    split at h9
    · rename_i hc
      simp at h9; subst h9
      exact soundQ h5 rfl h6 h7 (fun _ _ h => h) fun w0 G0 D Dp G R st a w v _ _ hF hy => ex_fa ho h2 hu h4 ⟨j, h8, hc⟩ hF hy
    · cases h9
  · cases h3
theorem sound_fld (s : TypeId) (x : Operand) (f : Nat) (ho : o.op = .field s x f) (h : ((cDst nt o.dst).bind fun d => (cPO x).bind fun p => match P.underlying s with
    | some (.struct fs) => (fs[f]?).bind fun fd => (P.info? fd.type).bind fun i => (isAgB P fd.type).map fun ag => PI.fld d p fd.offset i.size ag
    | _ => none) = some i) : SoundI P nt n0 o i := by
  simp only [Option.bind_eq_some_iff] at h
  obtain ⟨d, h1, p, h2, h3⟩ := h
  obtain ⟨t', h5, rfl, h6, h7⟩ := cDst_spec h1
  split at h3
  · rename_i fs hu
    simp only [Option.bind_eq_some_iff, Option.map_eq_some_iff] at h3
    obtain ⟨fd, h4, j, h8, ag, h9, rfl⟩ := h3
    exact soundQ h5 rfl h6 h7 (fun _ _ h => h) fun w0 G0 D Dp G R st a w v _ _ hF hy => ex_fld ho h2 hu h4 h9 h8 hF hy
  · cases h3
theorem sound_ia (t : TypeId) (x y : Operand) (ho : o.op = .indexAddr t x y) (h : ((cDst nt o.dst).bind fun d => (cPO x).bind fun p => (cPO y).bind fun q => match P.underlying t with
    | some (.slice e) => (P.info? e).map fun i => PI.ia d p q i.size
    | some (.array m e) => (P.info? e).map fun i => PI.iap d p q i.size m
    | _ => none) = some i) : SoundI P nt n0 o i := by
  simp only [Option.bind_eq_some_iff] at h
  obtain ⟨d, h1, p, h2, q, h3, h4⟩ := h
  obtain ⟨t', h5, rfl, h6, h7⟩ := cDst_spec h1
  split at h4
  · rename_i e hu
    simp only [Option.map_eq_some_iff] at h4
    obtain ⟨j, h8, rfl⟩ := h4
    exact soundQ h5 rfl h6 h7 (fun _ _ h => h) fun w0 G0 D Dp G R st a w v hD hDp hF hy => ex_ia ho h2 h3 hu h8 hD hDp hF hy
  · rename_i m e hu
    simp only [Option.map_eq_some_iff] at h4
    obtain ⟨j, h8, rfl⟩ := h4
    exact soundQ h5 rfl h6 h7 (fun _ _ h => h) fun w0 G0 D Dp G R st a w v _ _ hF hy => ex_iap ho h2 h3 hu h8 hF hy
  · cases h4
theorem sound_ixs (t : TypeId) (x y : Operand) (ho : o.op = .index t x y) (h : ((cDst nt o.dst).bind fun d => (cPO x).bind fun p => (cPO y).bind fun q => if isStr P t then some (PI.ixs d p q) else none) = some i) : SoundI P nt n0 o i := by
  simp only [Option.bind_eq_some_iff] at h
  obtain ⟨d, h1, p, h2, q, h3, h4⟩ := h
  obtain ⟨t', h5, rfl, h6, h7⟩ := cDst_spec h1
  split at h4
  · rename_i hu
    simp at h4; subst h4
    exact soundQ h5 rfl h6 h7 (fun _ _ h => h) fun w0 G0 D Dp G R st a w v _ _ hF hy => ex_ixs ho h2 h3 (isStr_spec hu) hF hy
  · cases h4
theorem sound_ext (x : Operand) (k : Nat) (ho : o.op = .extract x k) (h : ((cDst nt o.dst).bind fun d => (cPO x).map fun p => PI.ext d p k) = some i) : SoundI P nt n0 o i := by
  simp only [Option.bind_eq_some_iff, Option.map_eq_some_iff] at h
  obtain ⟨d, h1, p, h2, rfl⟩ := h
  obtain ⟨t', h5, rfl, h6, h7⟩ := cDst_spec h1
  exact soundQ h5 rfl h6 h7 (fun _ _ h => h) fun w0 G0 D Dp G R st a w v _ _ hF hy => ex_ext ho h2 hF hy
theorem sound_mkf (f : FuncId) (cs : Array Operand) (ho : o.op = .makeFunc (.func f) #[] cs) (h : ((cDst nt o.dst).bind fun d => (cPOs cs.toList).map (PI.mkf d f)) = some i) : SoundI P nt n0 o i := by
  simp only [Option.bind_eq_some_iff, Option.map_eq_some_iff] at h
  obtain ⟨d, h1, p, h2, rfl⟩ := h
  obtain ⟨t', h5, rfl, h6, h7⟩ := cDst_spec h1
  obtain ⟨cs⟩ := cs
  exact soundQ h5 rfl h6 h7 (fun _ _ h => h) fun w0 G0 D Dp G R st a w v _ _ hF hy => ex_mkf ho h2 hF hy
theorem sound_mks (t : TypeId) (x y : Operand) (ho : o.op = .makeSlice t x y) (h : ((cDst nt o.dst).bind fun d => (cPO x).bind fun p => (cPO y).bind fun q => match P.underlying t with
    | some (.slice e) => (P.info? e).bind fun i => (cZero P e).map fun zs => PI.mks d i.size i.bytes zs p q
    | _ => none) = some i) : SoundI P nt n0 o i := by
  simp only [Option.bind_eq_some_iff] at h
  obtain ⟨d, h1, p, h2, q, h3, h4⟩ := h
  obtain ⟨t', h5, rfl, h6, h7⟩ := cDst_spec h1
  split at h4
  · rename_i e hu
    simp only [Option.bind_eq_some_iff, Option.map_eq_some_iff] at h4
    obtain ⟨j, h8, zs, h9, rfl⟩ := h4
    obtain ⟨j', z, k1, k2, k3, k4, k5⟩ := cZero_spec h9
    rw [h8] at k1
    simp at k1; subst k1
    rintro w0 G0 D Dp st st' a w _ _ _ ⟨G, R, hF⟩ hs K Q hK
    exact wp_mks ho h5 h6 h7 h2 h3 hu h8 k2 k3 k4 k5 hF hs hK
  · cases h4
theorem sound_clr (c : Call) (hc : c.callee = .builtin .clear) (ho : o.op = .call c) (h : cClr P o.dst c = some i) : SoundI P nt n0 o i := by
  obtain ⟨cl, ⟨xs⟩, ⟨ts⟩⟩ := c
  simp only at hc; subst hc
  unfold cClr at h
  simp only at h
  split at h
  · rename_i x t
    split at h
    · rename_i e hu
      split at h
      · rename_i hd
        simp only [Option.bind_eq_some_iff, Option.map_eq_some_iff] at h
        obtain ⟨j, h8, zs, h9, p, h2, rfl⟩ := h
        obtain ⟨j', z, k1, k2, k3, k4, k5⟩ := cZero_spec h9
        rw [h8] at k1
        simp at k1; subst k1
        rintro w0 G0 D Dp st st' a w _ _ _ ⟨G, R, hF⟩ hs K Q hK
        exact wp_clr ho hd h2 hu h8 k2 k3 k4 k5 hF hs hK
      · cases h
    · cases h
  · cases h
theorem sound_calv (t : Tmp) (c : Call) (hc : c.callee = .value (.tmp t)) (ho : o.op = .call c) (h : ((cDst nt o.dst).bind fun d => (cPO (.tmp t)).bind fun p => (cPOs c.args.toList).map fun ps => if ms.contains anyF then PI.calvm d p ps else .calv d p ps) = some i) : SoundI P nt n0 o i := by
  simp only [Option.bind_eq_some_iff, Option.map_eq_some_iff] at h
  obtain ⟨d, h1, p, h2, ps, h3, hi⟩ := h
  obtain ⟨t', h5, rfl, h6, h7⟩ := cDst_spec h1
  obtain ⟨cl, ⟨xs⟩, ts⟩ := c
  simp only at hc; subst hc
  split at hi
  · subst hi
    rintro w0 G0 D Dp st st' a w hG0 hD hDp ⟨G, R, hF⟩ ⟨f, cs, bs, r, bx1, k1, k2, k3, k4, k5, k6, rfl⟩ K Q hK
    have r0 := cPO_rel h2 hF
    rw [k1] at r0
    obtain ⟨us, e, hR⟩ := r0.inv_fn
    exact wp_callB hD hDp ho h5 h6 h7 e h3 k2 hF hR k3 k4 (us := []) (by simp) k5 k6 hK
  · subst hi
    rintro w0 G0 D Dp st st' a w hG0 hD hDp ⟨G, R, hF⟩ ⟨v, d, hd, ⟨f, cs, k1, k2, k3⟩, rfl⟩ K Q hK
    simp only [PI.dst, Option.some.injEq] at hd; subst hd
    have r := cPO_rel h2 hF
    rw [k1] at r
    obtain ⟨us, e, hR⟩ := r.inv_fn
    exact wp_call hD hDp ho h5 h6 h7 e h3 k2 hF hR k3 hK
theorem sound_call (c : Call) (ho : o.op = .call c) (h : cCall P nt n0 ms o.dst c = some i) : SoundI P nt n0 o i := by
  simp only [cCall, Option.bind_eq_some_iff] at h
  obtain ⟨d, h1, h2⟩ := h
  obtain ⟨t', h5, rfl, h6, h7⟩ := cDst_spec h1
  obtain ⟨cl, ⟨xs⟩, ⟨ts⟩⟩ := c
  simp only at h2
  split at h2
  · rename_i x
    split at h2
    · rename_i t
      split at h2
      · rename_i e hu
        simp only [Option.map_eq_some_iff] at h2
        obtain ⟨p, h3, rfl⟩ := h2
        exact soundQ h5 rfl h6 h7 (fun _ _ h => h) fun w0 G0 D Dp G R st a w v _ _ hF hy => ex_len ho h3 hu hF hy
      · rename_i hu
        simp only [Option.map_eq_some_iff] at h2
        obtain ⟨p, h3, rfl⟩ := h2
        exact soundQ h5 rfl h6 h7 (fun _ _ h => h) fun w0 G0 D Dp G R st a w v _ _ hF hy => ex_lns ho h3 hu hF hy
      · cases h2
    · cases h2
  · rename_i x
    split at h2
    · rename_i t
      split at h2
      · rename_i e hu
        simp only [Option.map_eq_some_iff] at h2
        obtain ⟨p, h3, rfl⟩ := h2
        exact soundQ h5 rfl h6 h7 (fun _ _ h => h) fun w0 G0 D Dp G R st a w v _ _ hF hy => ex_cap ho h3 hu hF hy
      · cases h2
    · cases h2
  · rename_i x y
    split at h2
    · rename_i t tx
      split at h2
      · rename_i e hu
        simp only [Option.bind_eq_some_iff, Option.map_eq_some_iff] at h2
        obtain ⟨j, h8, p, h3, q, h4, rfl⟩ := h2
        rintro w0 G0 D Dp st st' a w _ _ _ ⟨G, R, hF⟩ hs K Q hK
        exact wp_cpy ho h5 h6 h7 h3 h4 hu h8 hF hs hK
      · cases h2
    · cases h2
  · rename_i x y
    simp only [Option.bind_eq_some_iff, Option.map_eq_some_iff] at h2
    obtain ⟨p, h3, q, h4, rfl⟩ := h2
    exact soundQ h5 rfl h6 h7 (fun _ _ h => h) fun w0 G0 D Dp G R st a w v _ _ hF hy => ex_mm (mx := false) ho h3 h4 hF hy
  · rename_i x y
    simp only [Option.bind_eq_some_iff, Option.map_eq_some_iff] at h2
    obtain ⟨p, h3, q, h4, rfl⟩ := h2
    exact soundQ h5 rfl h6 h7 (fun _ _ h => h) fun w0 G0 D Dp G R st a w v _ _ hF hy => ex_mm (mx := true) ho h3 h4 hF hy
  · rename_i x y
    split at h2
    · rename_i t tx
      split at h2
      · rename_i e hu
        simp only [Option.bind_eq_some_iff] at h2
        obtain ⟨j, h3, zs, h4, p, h8, q, h9, h10⟩ := h2
        obtain ⟨j', z, k1, k2, k3, k4, k5⟩ := cZero_spec h4
        rw [h3] at k1
        simp at k1; subst k1
        split at h10
        · rename_i hc
          simp at h10; subst h10
          rintro w0 G0 D Dp st st' a w hG0 hD hDp ⟨G, R, hF⟩ hs K Q hK
          exact wp_app ho h5 h6 h7 h8 h9 hu h3 k2 k4 hc.1 (isSl_spec hc.2) hD hG0 hF hs hK
        · cases h10
      · cases h2
    · cases h2
  · split at h2
    · rename_i hok
      simp only [Option.map_eq_some_iff] at h2
      obtain ⟨ps, h3, hi⟩ := h2
      split at hi
      · subst hi
        rintro w0 G0 D Dp st st' a w hG0 hD hDp ⟨G, R, hF⟩ ⟨bs, us, r, bx1, k3, k4, k5, k7, k6, rfl⟩ K Q hK
        exact wp_callB (cs := []) (qs := []) hD hDp ho h5 h6 h7 rfl h3 hok hF (RelL.nil _) k3 k4 (us := us) (fun j hj => let ⟨b, h1, h2⟩ := k7 j hj; ⟨b, h1, Nat.le_trans hG0 h2⟩) k5 (by simpa using k6) hK
      · subst hi
        rintro w0 G0 D Dp st st' a w hG0 hD hDp ⟨G, R, hF⟩ ⟨v, d, hd, k3, rfl⟩ K Q hK
        simp only [PI.dst, Option.some.injEq] at hd; subst hd
        simp only [PI.yields] at k3
        exact wp_call (cs := []) (qs := []) hD hDp ho h5 h6 h7 rfl h3 hok hF (RelL.nil _) (by simpa using k3) hK
    · cases h2
  · cases h2
theorem cI_sound (h : cI P nt n0 ms o = some i) : SoundI P nt n0 o i := by
  unfold cI at h
  split at h
  · exact sound_mov _ (.inl (by assumption)) h
  · exact sound_mov _ (.inr (by assumption)) h
  · exact sound_pick _ _ _ (by assumption) h
  · exact sound_new _ (by assumption) h
  · exact sound_box _ _ (by assumption) h
  · exact sound_bld _ _ (by assumption) h
  · exact sound_lit _ _ _ (by assumption) h
  · exact sound_ld _ _ (by assumption) h
  · exact sound_st _ _ _ (by assumption) h
  · exact sound_bin _ _ _ _ _ (by assumption) h
  · exact sound_not _ _ (by assumption) h
  · exact sound_conv _ _ _ (by assumption) h
  · exact sound_slice _ _ _ _ _ (by assumption) h
  · exact sound_fa _ _ _ (by assumption) h
  · exact sound_fld _ _ _ (by assumption) h
  · exact sound_ia _ _ _ (by assumption) h
  · exact sound_ixs _ _ _ (by assumption) h
  · exact sound_mks _ _ _ (by assumption) h
  · exact sound_ext _ _ (by assumption) h
  · exact sound_mkf _ _ (by assumption) h
  · split at h
    · exact sound_calv _ _ (by assumption) (by assumption) h
    · exact sound_clr _ (by assumption) (by assumption) h
    · exact sound_call _ (by assumption) h
  · cases h
end
end Go.Proofs.Ytdkancgcefklfaa
