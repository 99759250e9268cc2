/-
  A program's code as code over plain views; whatever order a statement is drawn in.
-/
import Derived.Test.YtdkancgcefklfaaPD
import Derived.Deep.LoopGhost
namespace Go.Proofs.Ytdkancgcefklfaa
open Go.RowKit

def cG (P : Program) (nt n0 : Nat) (ms : List FuncId) (ops : List Oper) (o : Oper) : Option GI :=
  (cI P nt n0 ms o).bind fun i => if i.dst = o.dst.map slot ∧ (o.dst.all fun d => d < nt ∧ d < 512) = true then
    match o.guard with
    | none => some ⟨none, i⟩
    | some (j, b) => (ops[j]?).bind fun oj => oj.dst.bind fun d => if d < 512 then some ⟨some (slot d, b), i⟩ else none
  else none
section
variable {P : Program} {nt n0 : Nat} {ms : List FuncId} {w0 : World} {G0 : List Nat} {D Dp : Nat → Nat → Prop} {st st' : St} {a : Act} {w : World} {Q : Exit → Act → World → Prop}

theorem soundG {ops : List Oper} {k : Nat} {o : Oper} {gi : GI} (hk : ops[k]? = some o) (hg : cG P nt n0 ms ops o = some gi) (hG0 : G0.length ≤ n0) (hD : DomOk w0 D) (hDp : DomOk w0 Dp) (hF : FInv nt w0 G0 D Dp st a w) (hs : gi.step P st st')
    {K : Act → World → Prop} (hK : ∀ a' w', FInv nt w0 G0 D Dp st' a' w' → K a' w') : wpOp P ops.toArray Q k K a w := by
  simp only [cG, Option.bind_eq_some_iff] at hg
  obtain ⟨i, h1, h2⟩ := hg
  split at h2
  · rename_i hc
    have hso := cI_sound h1
    unfold wpOp
    have hk' : ops.toArray[k]? = some o := by simpa using hk
    simp only [hk']
    split at h2
    · rename_i hgd
      simp at h2; subst h2
      rw [if_pos (by simp [Region.wanted, hgd])]
      exact .inl (hso _ _ _ _ _ _ _ _ hG0 hD hDp hF hs K Q hK)
    · rename_i j b hgd
      simp only [Option.bind_eq_some_iff] at h2
      obtain ⟨oj, h3, d, h4, h5⟩ := h2
      split at h5
      · rename_i hd5
        simp at h5; subst h5
        obtain ⟨t, h6, h7⟩ := hs
        obtain ⟨G, R, hFI⟩ := id hF
        have h8 := hFI.slots d hd5
        rw [h6] at h8
        have hy : yielded ops.toArray a.tmps j = t := by
          have h12 : (ops.toArray)[j]? = some oj := by simpa using h3
          cases t with
          | some t =>
            have h9 := h8.inv_v
            have h10 : a.tmps[d]? = some (.bool t) := by
              rw [Array.getD_eq_getD_getElem?] at h9
              cases h11 : a.tmps[d]? with
              | none => rw [h11] at h9; simp [undef] at h9
              | some u => rw [h11] at h9; simpa using h9
            simp [yielded, h12, h4, h10]
          | none =>
            have h9 := h8.inv_v
            rw [Array.getD_eq_getD_getElem?] at h9
            cases h11 : a.tmps[d]? with
            | none => simp [yielded, h12, h4, h11]
            | some u =>
              rw [h11] at h9
              simp at h9; subst h9
              simp [yielded, h12, h4, h11]
        have hw : Region.wanted o (yielded ops.toArray a.tmps) = (t == some b) := by simp only [Region.wanted, hgd, hy]
        rw [hw]
        by_cases htb : t = some b
        · subst htb
          rw [if_pos rfl] at h7
          rw [if_pos (by simp)]
          exact .inl (hso _ _ _ _ _ _ _ _ hG0 hD hDp hF h7 K Q hK)
        · rw [if_neg htb] at h7
          rw [if_neg (by simpa using htb)]
          subst h7
          have hc1 := hc.1
          cases hod : o.dst with
          | none =>
            rw [hod] at hc1
            simp only [Option.map_none] at hc1
            simp only [hc1] at hK
            exact hK _ _ hF
          | some t' =>
            rw [hod] at hc1
            have hc2 := hc.2
            rw [hod] at hc2
            simp only [Option.map_some] at hc1
            simp only [hc1] at hK
            simp at hc2
            exact hK _ _ ⟨G, R, hFI.put hc2.1 hc2.2 (.v _ _)⟩
      · cases h5
  · cases h2

/-- operations by their numbers -/
def runI (P : Program) (gs : List GI) : List Nat → St → (St → Prop) → Prop
  | [], st, K => K st
  | k :: ks, st, K => ∃ gi st', gs[k]? = some gi ∧ gi.step P st st' ∧ runI P gs ks st' K
theorem runI_of {gs : List GI} : ∀ {ks : List Nat} {l : List GI} {st : St} {K : St → Prop}, ks.mapM (fun k => gs[k]?) = some l → runR P l st K → runI P gs ks st K
  | [], l, st, K, h, hr => by simp at h; subst h; exact hr
  | k :: ks, l, st, K, h, hr => by
    simp only [List.mapM_cons, Option.bind_eq_bind, Option.bind_eq_some_iff, Option.pure_def, Option.some.injEq] at h
    obtain ⟨gi, h1, l', h2, rfl⟩ := h
    obtain ⟨st', h3, h4⟩ := hr
    exact ⟨gi, st', h1, h3, runI_of h2 h4⟩
/-- each is what the operation of its number becomes -/
def Made (P : Program) (nt n0 : Nat) (ms : List FuncId) (ops : List Oper) (gs : List GI) : Prop := ∀ (k : Nat) gi, gs[k]? = some gi → ∃ o, ops[k]? = some o ∧ cG P nt n0 ms ops o = some gi
theorem ops_sound {ops : List Oper} {gs : List GI} (hm : Made P nt n0 ms ops gs) (hG0 : G0.length ≤ n0) (hD : DomOk w0 D) (hDp : DomOk w0 Dp) {K : St → Prop} (hQ : ∀ st' a' w', K st' → FInv nt w0 G0 D Dp st' a' w' → Q .normal a' w') :
    ∀ (ks : List Nat) (st : St) (a : Act) (w : World), runI P gs ks st K → FInv nt w0 G0 D Dp st a w → wpOps P ops.toArray Q ks a w
  | [], st, a, w, hr, hF => hQ st a w hr hF
  | k :: ks, st, a, w, ⟨gi, st', h1, h2, h3⟩, hF => by
    rw [wpOps_cons]
    obtain ⟨o, h4, h5⟩ := hm k gi h1
    exact soundG h4 h5 hG0 hD hDp hF h2 fun a' w' hF' => ops_sound hm hG0 hD hDp hQ ks st' a' w' h3 hF'

/-! ### in whatever order -/
def PO.slots : PO → List Slot
  | .s i => [i]
  | .k _ => []
def GI.reads (gi : GI) : List Slot := (gi.i.pos.flatMap PO.slots) ++ (match gi.g with | some (s, _) => [s] | none => [])
def PI.isNew : PI → Bool
  | .new .. => true
  | _ => false
def PV.noPb : PV → Bool
  | .v _ | .sl .. | .fn _ [] | .pt _ | .bad => true
  | .agg cs => cs.all fun c => match c with
    | .v _ | .sl .. => true
    | _ => false
  | _ => false
theorem okP_noPb {n : Nat} {p : PV} (h : p.noPb = true) : OkP n p := by
  unfold PV.noPb at h
  split at h
  · exact .v _
  · exact .sl _ _ _
  · exact .fn _ _ (fun _ h => by cases h)
  · exact .pt _
  · exact .bad
  · rename_i cs
    rw [List.all_eq_true] at h
    refine .agg _ fun c hc => ?_
    have := h c hc
    split at this
    · exact .v _
    · exact .sl _ _ _
    · cases this
  · cases h
def PO.fixed : PO → Bool
  | .s _ => true
  | .k v => v.noPb
/-- operations on numbers and truth values alone -/
def PI.isVal : PI → Bool
  | .ar .. | .dv .. | .cmp .. | .not .. | .cvi .. | .beq .. | .mm .. => true
  | _ => false
/-- a call that lends boxes, and the copy of a slot or an operation on numbers, both without a condition -/
def callMov : GI → GI → Bool
  | ⟨none, .callm ..⟩, ⟨none, y⟩ => y.isVal || match y with
    | .mov _ (.s _) => true
    | _ => false
  | _, _ => false
theorem callMov_spec {x y : GI} (h : callMov x y = true) : (∃ d n0 f xs, x = ⟨none, .callm d n0 f xs⟩) ∧ ((∃ dy sy, y = ⟨none, .mov dy (.s sy)⟩) ∨ ∃ i, y = ⟨none, i⟩ ∧ i.isVal = true) := by
  obtain ⟨gx, ix⟩ := x
  obtain ⟨gy, iy⟩ := y
  unfold callMov at h
  split at h
  · rename_i d n0 f xs y' e1 e2
    injection e1 with e3 e4
    injection e2 with e5 e6
    subst e3 e4 e5 e6
    refine ⟨⟨_, _, _, _, rfl⟩, ?_⟩
    by_cases hv : iy.isVal = true
    · exact .inr ⟨_, rfl, hv⟩
    · simp only [hv, Bool.false_or] at h
      split at h
      · exact .inl ⟨_, _, rfl⟩
      · cases h
  · cases h
/-- the later one may be taken first -/
def indepQ (x y : GI) : Bool :=
  y.i.pos.all PO.fixed && !y.i.acts && (!x.i.acts || x.i.isNew || callMov x y) &&
  match x.i.dst, y.i.dst with
  | some dx, some dy => dx != dy && !(y.reads.contains dx) && !(x.reads.contains dy)
  | _, _ => false
def GI.qv (P : Program) (gi : GI) (st : St) (v : PV) : Prop :=
  match gi.g with
  | none => gi.i.yields P st.ev st.bx v
  | some (s, b) => ∃ t, st.s.get s = gB t ∧ if t = some b then gi.i.yields P st.ev st.bx v else v = skp
theorem step_quiet {i : PI} (h : i.acts = false) {st st' : St} : i.step P st st' ↔ ∃ v d, i.dst = some d ∧ i.yields P st.ev st.bx v ∧ st' = st.put d v := by
  cases i <;> first | rfl | cases h
theorem gstep_quiet {gi : GI} (h : gi.i.acts = false) {d : Slot} (hd : gi.i.dst = some d) {st st' : St} : gi.step P st st' ↔ ∃ v, gi.qv P st v ∧ st' = st.put d v := by
  unfold GI.step GI.qv
  cases hg : gi.g with
  | none =>
    simp only
    rw [step_quiet h]
    constructor
    · rintro ⟨v, d', h1, h2, h3⟩
      rw [hd] at h1; simp at h1; subst h1
      exact ⟨v, h2, h3⟩
    · rintro ⟨v, h2, h3⟩
      exact ⟨v, d, hd, h2, h3⟩
  | some sb =>
    obtain ⟨s, b⟩ := sb
    simp only [hd]
    constructor
    · rintro ⟨t, h1, h2⟩
      split at h2
      · rename_i htb
        rw [step_quiet h] at h2
        obtain ⟨v, d', h3, h4, h5⟩ := h2
        rw [hd] at h3; simp at h3; subst h3
        exact ⟨v, ⟨t, h1, by rw [if_pos htb]; exact h4⟩, h5⟩
      · rename_i htb
        exact ⟨skp, ⟨t, h1, by rw [if_neg htb]⟩, h2⟩
    · rintro ⟨v, ⟨t, h1, h2⟩, h3⟩
      refine ⟨t, h1, ?_⟩
      split
      · rename_i htb
        rw [if_pos htb] at h2
        rw [step_quiet h]
        exact ⟨v, d, hd, h2, h3⟩
      · rename_i htb
        rw [if_neg htb] at h2
        subst h2; exact h3
theorem qv_congr {gi : GI} {st st' : St} (h : ∀ s ∈ gi.reads, st.s.get s = st'.s.get s) (hb : st.bx = st'.bx) {v : PV} (hq : gi.qv P st v) : gi.qv P st' v := by
  have hp : ∀ x ∈ gi.i.pos, st.ev x = st'.ev x := fun x hx => by
    cases x with
    | s i => exact h i (by simp only [GI.reads, List.mem_append, List.mem_flatMap]; exact .inl ⟨_, hx, by simp [PO.slots]⟩)
    | k v => rfl
  unfold GI.qv at *
  cases hg : gi.g with
  | none =>
    rw [hg] at hq
    simp only at hq ⊢
    rw [← hb]; exact yields_congr hp hq
  | some sb =>
    obtain ⟨s, b⟩ := sb
    rw [hg] at hq
    simp only at hq ⊢
    obtain ⟨t, h1, h2⟩ := hq
    refine ⟨t, by rw [← h s (by simp [GI.reads, hg])]; exact h1, ?_⟩
    split
    · rename_i htb
      rw [if_pos htb] at h2
      rw [← hb]; exact yields_congr hp h2
    · rename_i htb
      rw [if_neg htb] at h2; exact h2
theorem qv_shrink {gi : GI} {st : St} {ex : List (List PV)} (hok : ∀ x ∈ gi.i.pos, OkP st.bx.length (st.ev x)) {v : PV} (hq : gi.qv P ⟨st.s, st.bx ++ ex, st.rw⟩ v) : gi.qv P st v := by
  unfold GI.qv at *
  cases hg : gi.g with
  | none =>
    rw [hg] at hq
    exact yields_shrink hok hq
  | some sb =>
    obtain ⟨s, b⟩ := sb
    rw [hg] at hq
    obtain ⟨t, h1, h2⟩ := hq
    refine ⟨t, h1, ?_⟩
    split
    · rename_i htb
      rw [if_pos htb] at h2
      exact yields_shrink hok h2
    · rename_i htb
      rw [if_neg htb] at h2; exact h2
theorem Oct.map_put {α β : Type} (f : α → β) (z v : α) (z' : β) (h : f z = z') (s : Oct α) (i : Ix) : Oct.map f (s.put z v i) = (Oct.map f s).put z' (f v) i := by
  subst h
  cases s <;> cases i <;> rfl
theorem forg_put (b : List Nat) (s : Slots) (i : Slot) (v : PV) : (s.put i v).forg b = (s.forg b).put i (mapV (forgC b) v) := by
  unfold Slots.forg Slots.put
  rw [Oct.map_put (Oct.map (Oct.map (mapV (forgC b)))) .nil _ .nil rfl, Oct.map_put (Oct.map (mapV (forgC b))) .nil _ .nil rfl, Oct.map_put (mapV (forgC b)) .bad _ .bad rfl]
  have h1 := oct_map_get (Oct.map (Oct.map (mapV (forgC b)))) .nil .nil rfl s i.x
  have h2 := oct_map_get (Oct.map (mapV (forgC b))) .nil .nil rfl (Oct.get .nil s i.x) i.y
  rw [← h2, ← h1]
theorem forgS_put (b : List Nat) (s : Slots) (i j : Slot) : forgS b (s.put i (s.get j)) = (forgS b s).put i ((forgS b s).get j) := by
  cases b with
  | nil => rfl
  | cons x r =>
    show (s.put i (s.get j)).forg (x :: r) = (s.forg (x :: r)).put i ((s.forg (x :: r)).get j)
    rw [forg_put, forg_get]
theorem swap_call {d dy sy : Slot} {n0 : Nat} {f : FuncId} {xs : List PO} (hne : d ≠ dy) (hs : sy ≠ d) (hx : ∀ x ∈ xs, ∀ s ∈ PO.slots x, s ≠ dy) {st S1 S2 : St} (h1 : GI.step P st ⟨none, .callm d n0 f xs⟩ S1) (h2 : GI.step P S1 ⟨none, .mov dy (.s sy)⟩ S2) :
    ∃ T, GI.step P st ⟨none, .mov dy (.s sy)⟩ T ∧ GI.step P T ⟨none, .callm d n0 f xs⟩ S2 := by
  obtain ⟨v, d', hd, hv, rfl⟩ := h2
  simp only [PI.dst, Option.some.injEq] at hd; subst hd
  have hv : v = S1.s.get sy := hv
  subst hv
  obtain ⟨bs, cs, r, bx1, k1, k2, k3, k4, k5, rfl⟩ := h1
  refine ⟨st.put dy (st.s.get sy), ⟨_, _, rfl, rfl, rfl⟩, bs, cs, r, bx1, k1, k2, k3, k4, ?_, ?_⟩
  · have : xs.map (fun x => mapS (mapC bs (shareC st.bx)) ((st.put dy (st.s.get sy)).ev x)) = xs.map (fun x => mapS (mapC bs (shareC st.bx)) (st.ev x)) := List.map_congr_left fun x hxm => by
      congr 1
      cases x with
      | s i => show (st.s.put dy _).get i = st.s.get i; rw [Slots.get_put, if_neg (hx _ hxm i (by simp [PO.slots]))]
      | k v => rfl
    show PCallsB P f cs _ (xs.map (fun x => mapS (mapC bs (shareC st.bx)) ((st.put dy (st.s.get sy)).ev x))) r bx1
    rw [this]; exact k5
  · show St.put ⟨(forgS _ st.s).put d _, _, _⟩ dy _ = ⟨(forgS _ (st.s.put dy (st.s.get sy))).put d _, _, _⟩
    simp only [St.put]
    rw [forgS_put, Slots.get_put, if_neg hs, Slots.put_comm _ hne]
theorem forgC_isv {b : List Nat} {p : PV} {u : Value} (h : mapV (forgC b) p = .v u) : p = .v u := by
  cases p with
  | v x => exact h
  | sl s es o => cases h
  | fn f cs => cases h
  | pt cs => cases h
  | pb a o => simp only [mapV, forgC] at h; split at h <;> cases h
  | sb a s o k c => simp only [mapV, forgC] at h; split at h <;> cases h
  | agg cs => cases h
  | tup cs => cases h
  | fs f cs => cases h
  | fp f cs => cases h
  | bad => cases h
theorem forgS_isv {b : List Nat} {s : Slots} {i : Slot} {u : Value} (h : (forgS b s).get i = .v u) : s.get i = .v u := by
  cases b with
  | nil => exact h
  | cons x r =>
    have h : (s.forg (x :: r)).get i = .v u := h
    rw [forg_get] at h
    exact forgC_isv h
theorem isVal_yields {i : PI} (h : i.isVal = true) {ρ ρ' : PO → PV} {bx bx' : List (List PV)} {v : PV} (hr : ∀ x ∈ i.pos, ∀ u, ρ x = .v u → ρ' x = .v u) (hy : i.yields P ρ bx v) : i.yields P ρ' bx' v ∧ ∃ u, v = .v u := by
  cases i <;> first | cases h | skip
  case ar d op k x y =>
    obtain ⟨a, b, h1, h2, h3, rfl⟩ := hy
    exact ⟨⟨a, b, hr x (by simp [PI.pos]) _ h1, hr y (by simp [PI.pos]) _ h2, h3, rfl⟩, _, rfl⟩
  case dv d op k x y =>
    obtain ⟨a, b, h1, h2, h3, h4⟩ := hy
    refine ⟨⟨a, b, hr x (by simp [PI.pos]) _ h1, hr y (by simp [PI.pos]) _ h2, h3, h4⟩, ?_⟩
    split at h4
    · exact ⟨_, h4.2⟩
    · exact ⟨_, h4⟩
  case cmp d op x y =>
    obtain ⟨k, a, b, h1, h2, rfl⟩ := hy
    exact ⟨⟨k, a, b, hr x (by simp [PI.pos]) _ h1, hr y (by simp [PI.pos]) _ h2, rfl⟩, _, rfl⟩
  case beq d n x y =>
    obtain ⟨a, b, h1, h2, rfl⟩ := hy
    exact ⟨⟨a, b, hr x (by simp [PI.pos]) _ h1, hr y (by simp [PI.pos]) _ h2, rfl⟩, _, rfl⟩
  case not d x =>
    obtain ⟨a, h1, rfl⟩ := hy
    exact ⟨⟨a, hr x (by simp [PI.pos]) _ h1, rfl⟩, _, rfl⟩
  case cvi d k x =>
    obtain ⟨j, a, h1, rfl⟩ := hy
    exact ⟨⟨j, a, hr x (by simp [PI.pos]) _ h1, rfl⟩, _, rfl⟩
  case mm d m x y =>
    obtain ⟨k, a, b, h1, h2, rfl⟩ := hy
    exact ⟨⟨k, a, b, hr x (by simp [PI.pos]) _ h1, hr y (by simp [PI.pos]) _ h2, rfl⟩, _, rfl⟩
theorem isVal_quiet {i : PI} (h : i.isVal = true) : i.acts = false := by
  cases i <;> first | rfl | cases h
theorem swap_val {d dy : Slot} {n0 : Nat} {f : FuncId} {xs : List PO} {i : PI} (hv : i.isVal = true) (hdy : i.dst = some dy) (hne : d ≠ dy) (hs : ∀ s ∈ GI.reads ⟨none, i⟩, s ≠ d) (hx : ∀ x ∈ xs, ∀ s ∈ PO.slots x, s ≠ dy) {st S1 S2 : St} (h1 : GI.step P st ⟨none, .callm d n0 f xs⟩ S1) (h2 : GI.step P S1 ⟨none, i⟩ S2) :
    ∃ T, GI.step P st ⟨none, i⟩ T ∧ GI.step P T ⟨none, .callm d n0 f xs⟩ S2 := by
  rw [gstep_quiet (gi := ⟨none, i⟩) (isVal_quiet hv) hdy] at h2
  obtain ⟨v, hq, rfl⟩ := h2
  have hq : i.yields P S1.ev S1.bx v := hq
  obtain ⟨bs, cs, r, bx1, k1, k2, k3, k4, k5, rfl⟩ := h1
  obtain ⟨hq, u, rfl⟩ := isVal_yields (bx' := st.bx) (ρ' := st.ev) hv (fun x hx u hu => by
    cases x with
    | k v => exact hu
    | s j =>
      have hu : ((forgS _ st.s).put d _).get j = .v u := hu
      rw [Slots.get_put, if_neg (hs j (by simp only [GI.reads, List.append_nil, List.mem_flatMap]; exact ⟨_, hx, by simp [PO.slots]⟩))] at hu
      exact forgS_isv hu) hq
  refine ⟨st.put dy (.v u), (gstep_quiet (gi := ⟨none, i⟩) (isVal_quiet hv) hdy).2 ⟨_, hq, rfl⟩, bs, cs, r, bx1, k1, k2, k3, k4, ?_, ?_⟩
  · have : xs.map (fun x => mapS (mapC bs (shareC st.bx)) ((st.put dy (.v u)).ev x)) = xs.map (fun x => mapS (mapC bs (shareC st.bx)) (st.ev x)) := List.map_congr_left fun x hxm => by
      congr 1
      cases x with
      | s i => show (st.s.put dy _).get i = st.s.get i; rw [Slots.get_put, if_neg (hx _ hxm i (by simp [PO.slots]))]
      | k v => rfl
    show PCallsB P f cs _ (xs.map (fun x => mapS (mapC bs (shareC st.bx)) ((st.put dy (.v u)).ev x))) r bx1
    rw [this]; exact k5
  · show St.put ⟨(forgS _ st.s).put d _, _, _⟩ dy _ = ⟨(forgS _ (st.s.put dy (.v u))).put d _, _, _⟩
    have hfp : ∀ b : List Nat, forgS b (st.s.put dy (.v u)) = (forgS b st.s).put dy (.v u) := fun b => by
      cases b with
      | nil => rfl
      | cons z zs => exact forg_put _ _ _ _
    simp only [St.put]
    rw [hfp, Slots.put_comm _ hne]
theorem swap {x y : GI} (hi : indepQ x y = true) {st S1 S2 : St} (hok : ∀ p ∈ y.i.pos, OkP st.bx.length (st.ev p)) (h1 : x.step P st S1) (h2 : y.step P S1 S2) : ∃ T, y.step P st T ∧ x.step P T S2 := by
  simp only [indepQ, Bool.and_eq_true, Bool.not_eq_true', Bool.or_eq_true] at hi
  obtain ⟨⟨⟨_, hy⟩, hx⟩, hi⟩ := hi
  split at hi
  · rename_i dx dy hdx hdy
    simp only [Bool.and_eq_true, bne_iff_ne, ne_eq, Bool.not_eq_true', List.contains_eq_mem, decide_eq_false_iff_not] at hi
    obtain ⟨⟨hne, hry⟩, hrx⟩ := hi
    by_cases hcm : callMov x y = true
    · obtain ⟨⟨d, n0, f, xs, rfl⟩, h⟩ := callMov_spec hcm
      simp only [PI.dst, Option.some.injEq] at hdx
      subst hdx
      have hxs : ∀ q ∈ xs, ∀ s ∈ PO.slots q, s ≠ dy := fun q hq s hs e => hrx (by
        subst e
        simp only [GI.reads, PI.pos, List.append_nil, List.mem_flatMap]
        exact ⟨q, hq, hs⟩)
      rcases h with ⟨dy', sy, rfl⟩ | ⟨i, rfl, hv⟩
      · simp only [PI.dst, Option.some.injEq] at hdy
        subst hdy
        exact swap_call hne (fun e => hry (by simp [GI.reads, PI.pos, PO.slots, e])) hxs h1 h2
      · exact swap_val hv hdy hne (fun s hs e => hry (by rw [← e]; exact hs)) hxs h1 h2
    replace hx : x.i.acts = false ∨ x.i.isNew = true := by
      rcases hx with h | h
      · exact h
      · exact absurd h hcm
    rw [gstep_quiet hy hdy] at h2
    obtain ⟨vy, hqy, rfl⟩ := h2
    -- what y finds is what it found behind x
    have back : ∀ {S1 : St} {ex : List (List PV)} {vx : PV}, S1 = ⟨st.s.put dx vx, st.bx ++ ex, st.rw⟩ → y.qv P S1 vy → y.qv P st vy := by
      rintro S1 ex vx rfl hq
      refine qv_shrink (ex := ex) hok (qv_congr (st := ⟨st.s.put dx vx, st.bx ++ ex, st.rw⟩) (st' := ⟨st.s, st.bx ++ ex, st.rw⟩) (fun s hs => ?_) rfl hq)
      show (st.s.put dx vx).get s = st.s.get s
      rw [Slots.get_put, if_neg (fun (e : s = dx) => hry (by rw [← e]; exact hs))]
    have fwd : ∀ s ∈ x.reads, st.s.get s = (st.put dy vy).s.get s := fun s hs => by
      show st.s.get s = (st.s.put dy vy).get s
      rw [Slots.get_put, if_neg (fun (e : s = dy) => hrx (by rw [← e]; exact hs))]
    by_cases hxa : x.i.acts = false
    · rw [gstep_quiet hxa hdx] at h1
      obtain ⟨vx, hqx, rfl⟩ := h1
      refine ⟨st.put dy vy, (gstep_quiet hy hdy).2 ⟨vy, back (ex := []) (vx := vx) (by simp [St.put]) hqy, rfl⟩, (gstep_quiet hxa hdx).2 ⟨vx, qv_congr fwd rfl hqx, ?_⟩⟩
      simp only [St.put, Slots.put_comm _ hne]
    · have hxn : x.i.isNew = true := by
        rcases hx with h | h
        · exact absurd h hxa
        · exact h
      obtain ⟨g, i⟩ := x
      cases i <;> first | cases hxn | skip
      rename_i d zs
      simp only [PI.dst, Option.some.injEq] at hdx
      subst hdx
      have done : ∀ {S1 : St}, S1 = ⟨st.s.put d (.pb st.bx.length 0), st.bx ++ [zs], st.rw⟩ → y.qv P S1 vy → y.qv P st vy ∧ S1.put dy vy = ⟨(st.put dy vy).s.put d (.pb (st.put dy vy).bx.length 0), (st.put dy vy).bx ++ [zs], (st.put dy vy).rw⟩ := by
        rintro S1 rfl hq
        exact ⟨back rfl hq, by simp only [St.put, Slots.put_comm _ hne]⟩
      have skip : ∀ {S1 : St}, S1 = st.put d skp → y.qv P S1 vy → y.qv P st vy ∧ S1.put dy vy = (st.put dy vy).put d skp := by
        rintro S1 rfl hq
        exact ⟨back (ex := []) (vx := skp) (by simp [St.put]) hq, by simp only [St.put, Slots.put_comm _ hne]⟩
      cases g with
      | none =>
        obtain ⟨k1, k2⟩ := done h1 hqy
        exact ⟨st.put dy vy, (gstep_quiet hy hdy).2 ⟨vy, k1, rfl⟩, k2⟩
      | some sb =>
        obtain ⟨s, b⟩ := sb
        obtain ⟨t, h3, h4⟩ := h1
        have h5 : (st.put dy vy).s.get s = gB t := by rw [← fwd s (by simp [GI.reads])]; exact h3
        simp only at h4
        split at h4
        · rename_i htb
          obtain ⟨k1, k2⟩ := done h4 hqy
          exact ⟨st.put dy vy, (gstep_quiet hy hdy).2 ⟨vy, k1, rfl⟩, t, h5, by simp only; rw [if_pos htb]; exact k2⟩
        · rename_i htb
          obtain ⟨k1, k2⟩ := skip h4 hqy
          exact ⟨st.put dy vy, (gstep_quiet hy hdy).2 ⟨vy, k1, rfl⟩, t, h5, by simp only; rw [if_neg htb]; exact k2⟩
  · cases hi
theorem okP_mono {n m : Nat} (h : n ≤ m) {p : PV} (hp : OkP n p) : OkP m p := by
  induction hp with
  | v x => exact .v x
  | sl s es o => exact .sl s es o
  | fn f cs _ ih => exact .fn f cs ih
  | pt cs => exact .pt cs
  | pb b o hb => exact .pb b o (by omega)
  | sb b s o k c hb => exact .sb b s o k c (by omega)
  | agg cs _ ih => exact .agg cs ih
  | tup cs _ ih => exact .tup cs ih
  | fs f cs _ ih => exact .fs f cs ih
  | fp f cs _ ih => exact .fp f cs ih
  | bad => exact .bad
/-- what a step that may be overtaken leaves as it was -/
theorem step_keeps {x y : GI} (hi : indepQ x y = true) (hcm : callMov x y = false) {st S1 : St} (h1 : x.step P st S1) : (∀ s ∈ y.reads, S1.s.get s = st.s.get s) ∧ st.bx.length ≤ S1.bx.length := by
  simp only [indepQ, Bool.and_eq_true, Bool.not_eq_true', Bool.or_eq_true] at hi
  obtain ⟨⟨⟨_, hy⟩, hx⟩, hi⟩ := hi
  replace hx : x.i.acts = false ∨ x.i.isNew = true := by
    rcases hx with h | h
    · exact h
    · rw [hcm] at h; cases h
  split at hi
  · rename_i dx dy hdx hdy
    simp only [Bool.and_eq_true, bne_iff_ne, ne_eq, Bool.not_eq_true', List.contains_eq_mem, decide_eq_false_iff_not] at hi
    obtain ⟨⟨hne, hry⟩, hrx⟩ := hi
    have key : ∀ v, ∀ s ∈ y.reads, (st.s.put dx v).get s = st.s.get s := fun v s hs => by rw [Slots.get_put, if_neg (fun (e : s = dx) => hry (by rw [← e]; exact hs))]
    by_cases hxa : x.i.acts = false
    · rw [gstep_quiet hxa hdx] at h1
      obtain ⟨vx, _, rfl⟩ := h1
      exact ⟨key vx, Nat.le_refl _⟩
    · have hxn : x.i.isNew = true := by
        rcases hx with h | h
        · exact absurd h hxa
        · exact h
      obtain ⟨g, i⟩ := x
      cases i <;> first | cases hxn | skip
      rename_i d zs
      simp only [PI.dst, Option.some.injEq] at hdx
      subst hdx
      have fin : S1 = ⟨st.s.put d (.pb st.bx.length 0), st.bx ++ [zs], st.rw⟩ ∨ S1 = st.put d skp := by
        cases g with
        | none => exact .inl h1
        | some sb =>
          obtain ⟨s, b⟩ := sb
          obtain ⟨t, _, h4⟩ := h1
          simp only at h4
          split at h4
          · exact .inl h4
          · exact .inr h4
      rcases fin with rfl | rfl
      · exact ⟨key _, by simp⟩
      · exact ⟨key _, Nat.le_refl _⟩
  · cases hi
theorem okP_forgC {n : Nat} {i : List Nat} {p : PV} (h : OkP n p) : OkP n (forgC i p) := by
  cases h with
  | fn f cs h => cases cs <;> first | exact .fn _ _ (fun _ h => by cases h) | exact .bad
  | pb b o hb => simp only [forgC]; split <;> first | exact .bad | exact .pb _ _ hb
  | sb b s o k c hb => simp only [forgC]; split <;> first | exact .bad | exact .sb _ _ _ _ _ hb
  | v x => exact .v _
  | sl s es o => exact .sl _ _ _
  | pt cs => exact .pt _
  | _ => exact .bad
theorem okP_mapF {n : Nat} {i : List Nat} {p : PV} (h : OkP n p) : OkP n (mapV (forgC i) p) := by
  have hL : ∀ {cs : List PV}, (∀ c ∈ cs, OkP n c) → ∀ c ∈ cs.map (forgC i), OkP n c := fun h c hc => by
    obtain ⟨q, hq, rfl⟩ := List.mem_map.1 hc
    exact okP_forgC (h q hq)
  cases h with
  | agg cs h => exact .agg _ (hL h)
  | fn f cs h => exact .fn _ _ (hL h)
  | tup cs h =>
    refine .tup _ fun c hc => ?_
    obtain ⟨q, hq, rfl⟩ := List.mem_map.1 hc
    have := h q hq
    cases this with
    | agg ds h2 => exact .agg _ (hL h2)
    | v x => exact okP_forgC (i := i) (.v x)
    | sl s es o => exact okP_forgC (i := i) (.sl s es o)
    | fn f cs h => exact okP_forgC (i := i) (.fn f cs h)
    | pt cs => exact okP_forgC (i := i) (.pt cs)
    | pb b o h => exact okP_forgC (i := i) (.pb b o h)
    | sb b s o k c h => exact okP_forgC (i := i) (.sb b s o k c h)
    | tup cs h => exact okP_forgC (i := i) (.tup cs h)
    | fs f cs h => exact okP_forgC (i := i) (.fs f cs h)
    | fp f cs h => exact okP_forgC (i := i) (.fp f cs h)
    | bad => exact okP_forgC (i := i) .bad
  | v x => exact okP_forgC (i := i) (.v x)
  | sl s es o => exact okP_forgC (i := i) (.sl s es o)
  | pt cs => exact okP_forgC (i := i) (.pt cs)
  | pb b o h => exact okP_forgC (i := i) (.pb b o h)
  | sb b s o k c h => exact okP_forgC (i := i) (.sb b s o k c h)
  | fs f cs h => exact okP_forgC (i := i) (.fs f cs h)
  | fp f cs h => exact okP_forgC (i := i) (.fp f cs h)
  | bad => exact okP_forgC (i := i) .bad
theorem setBx_le {α : Type} : ∀ (bs : List Nat) (cs bx : List α), bx.length ≤ (setBx bs cs bx).length
  | [], cs, bx => by cases cs <;> simp [setBx]
  | b :: bs, [], bx => by simp [setBx]
  | b :: bs, c :: cs, bx => by
    have := setBx_le bs cs (bx.set b c)
    simpa [setBx] using this
theorem okP_call {x y : GI} (hi : indepQ x y = true) (hcm : callMov x y = true) {st S1 : St} (hok : ∀ p ∈ y.i.pos, OkP st.bx.length (st.ev p)) (h1 : x.step P st S1) : ∀ p ∈ y.i.pos, OkP S1.bx.length (S1.ev p) := by
  simp only [indepQ, Bool.and_eq_true] at hi
  obtain ⟨⟨⟨hfix, _⟩, _⟩, hi⟩ := hi
  rw [List.all_eq_true] at hfix
  obtain ⟨⟨d, n0, f, xs, rfl⟩, _⟩ := callMov_spec hcm
  split at hi
  · rename_i dx dy hdx hdy
    simp only [PI.dst, Option.some.injEq] at hdx
    subst hdx
    simp only [Bool.and_eq_true, bne_iff_ne, ne_eq, Bool.not_eq_true', List.contains_eq_mem, decide_eq_false_iff_not] at hi
    obtain ⟨⟨_, hry⟩, _⟩ := hi
    intro p hp
    have hk := hok p hp
    have hf := hfix p hp
    obtain ⟨bs, cs, r, bx1, k1, k2, k3, k4, k5, rfl⟩ := h1
    cases p with
    | k v => exact okP_noPb hf
    | s sy =>
      have hs : sy ≠ d := fun e => hry (by simp only [GI.reads, List.mem_append, List.mem_flatMap]; exact .inl ⟨_, hp, by simp [PO.slots, e]⟩)
      show OkP _ (((forgS _ st.s).put d _).get sy)
      rw [Slots.get_put, if_neg hs]
      have hlen : st.bx.length ≤ (setBx bs (bx1.map fun cs => cs.map (renC (back bs st.bx.length))) (forgB (cs.map (bs.getD · 0)) st.bx)).length := by
        refine Nat.le_trans ?_ (setBx_le _ _ _)
        cases (cs.map (bs.getD · 0)) <;> simp [forgB]
      refine okP_mono hlen ?_
      cases h : (cs.map (bs.getD · 0)) with
      | nil => exact hk
      | cons z zs => show OkP _ ((st.s.forg _).get sy); rw [forg_get]; exact okP_mapF hk
  · cases hi
theorem run_front {gs : List GI} {i : Nat} {gi : GI} (hgi : gs[i]? = some gi) {K : St → Prop} : ∀ (p q : List Nat) (st : St), (∀ k ∈ p, ∀ gk, gs[k]? = some gk → indepQ gk gi = true) → (∀ x ∈ gi.i.pos, OkP st.bx.length (st.ev x)) → runI P gs (p ++ i :: q) st K → runI P gs (i :: (p ++ q)) st K
  | [], q, st, _, _, h => h
  | k :: p, q, st, hp, hok, ⟨gk, S1, h1, h2, h3⟩ => by
    have hik := hp k (by simp) gk h1
    have hok1 : ∀ x ∈ gi.i.pos, OkP S1.bx.length (S1.ev x) := fun x hx => by
     by_cases hcm : callMov gk gi = true
     · exact okP_call hik hcm hok h2 x hx
     · obtain ⟨hk1, hk2⟩ := step_keeps hik (by simpa using hcm) h2
       have : S1.ev x = st.ev x := by
         cases x with
         | s j => exact hk1 j (by simp only [GI.reads, List.mem_append, List.mem_flatMap]; exact .inl ⟨_, hx, by simp [PO.slots]⟩)
         | k v => rfl
       rw [this]; exact okP_mono hk2 (hok x hx)
    obtain ⟨gi', S2, h4, h5, h6⟩ := run_front hgi p q S1 (fun j hj => hp j (by simp [hj])) hok1 h3
    rw [hgi] at h4; simp at h4; subst h4
    obtain ⟨T, h7, h8⟩ := swap hik hok h2 h5
    exact ⟨gi, T, hgi, h7, gk, S2, h1, h8, h6⟩

/-- a new box may be made ahead of an operation that only makes a value -/
def indepN (x y : GI) : Bool :=
  x.i.pos.all PO.fixed && !x.i.acts && match y with
    | ⟨none, .new dy _⟩ => match x.i.dst with
      | some dx => dx != dy && !(x.reads.contains dy)
      | none => false
    | _ => false
/-- the later one may be taken first -/
def indep (x y : GI) : Bool := indepQ x y || indepN x y
/-- whom each waits for, as bits -/
def bmOf (ops : List Oper) : List Nat :=
  ops.foldl (fun acc o => acc ++ [o.after.toList.foldl (fun s e => if Region.binds .any e then s ||| 2 ^ e.on ||| acc.getD e.on 0 else s) 0]) []
def bmOk (ops : List Oper) (bm : List Nat) : Bool :=
  (List.range ops.length).all fun j => (List.range ops.length).all fun i => !(bm.getD j 0).testBit i ||
    match ops[j]? with
    | some o => o.after.toList.any fun e => Region.binds .any e && decide (e.on < j) && (e.on == i || (bm.getD e.on 0).testBit i)
    | none => false
def pairsOk (gs : List GI) (bm : List Nat) : List Nat → Bool
  | [] => true
  | k :: r => !(r.contains k) && (r.all fun j => (bm.getD j 0).testBit k || match gs[k]?, gs[j]? with
    | some x, some y => indep x y
    | _, _ => false) && pairsOk gs bm r
def ordOf (gs : List GI) : List Nat :=
  ((List.range gs.length).filter fun k => match gs[k]? with | some g => g.i.isNew | none => false) ++
  ((List.range gs.length).filter fun k => match gs[k]? with | some g => !g.i.isNew | none => false)
def backOk (ops : List Oper) : Bool :=
  (List.range ops.length).all fun j => match ops[j]? with
    | some o => o.after.toList.all fun e => !Region.binds .any e || decide (e.on < j)
    | none => true
def Closed (ops : List Oper) (listed : Array Bool) : Prop :=
  ∀ (k : Nat) o, ops[k]? = some o → listed.getD k false = true → ∀ e ∈ o.after.toList, Region.binds .any e = true → listed.getD e.on false = true
theorem waits {ops : List Oper} {bm : List Nat} (hbm : bmOk ops bm = true) {listed : Array Bool} (hc : Closed ops listed) : ∀ (j : Nat) (o : Oper), ops[j]? = some o → (∀ e ∈ o.after.toList, Region.binds .any e = true → listed.getD e.on false = true) →
    ∀ k, k < ops.length → (bm.getD j 0).testBit k = true → listed.getD k false = true := by
  intro j
  induction j using Nat.strongRecOn with
  | _ j ih =>
    intro o ho hr k hk hb
    have hj := (List.getElem?_eq_some_iff.1 ho).1
    simp only [bmOk, List.all_eq_true, List.mem_range, Bool.or_eq_true, Bool.not_eq_true'] at hbm
    rcases hbm j hj k hk with h | h
    · rw [hb] at h; cases h
    · simp only [ho, List.any_eq_true, Bool.and_eq_true, decide_eq_true_eq, Bool.or_eq_true, beq_iff_eq] at h
      obtain ⟨e, he, ⟨hbe, hlt⟩, h⟩ := h
      have hl := hr e he hbe
      rcases h with rfl | h
      · exact hl
      · have hel : e.on < ops.length := by omega
        exact ih e.on hlt _ (List.getElem?_eq_getElem hel) (hc e.on _ (List.getElem?_eq_getElem hel) hl) k hk h
theorem pairs_spec {gs : List GI} {bm : List Nat} : ∀ {l : List Nat}, pairsOk gs bm l = true → l.Pairwise fun k j => k ≠ j ∧ ((bm.getD j 0).testBit k = true ∨ ∀ x y, gs[k]? = some x → gs[j]? = some y → indep x y = true)
  | [], _ => .nil
  | k :: r, h => by
    simp only [pairsOk, Bool.and_eq_true, Bool.not_eq_true', List.all_eq_true, Bool.or_eq_true] at h
    obtain ⟨⟨h1, h2⟩, h3⟩ := h
    refine .cons (fun j hj => ⟨fun e => ?_, ?_⟩) (pairs_spec h3)
    · subst e
      have := List.contains_eq_mem k r ▸ h1
      simp at this; exact this hj
    · rcases h2 j hj with h | h
      · exact .inl h
      · refine .inr fun x y hx hy => ?_
        rw [hx, hy] at h; exact h
def Ix.n : Ix → Nat
  | .a => 0
  | .b => 1
  | .c => 2
  | .d => 3
  | .e => 4
  | .f => 5
  | .g => 6
  | .h => 7
theorem Ix.lt (x : Ix) : x.n < 8 := by cases x <;> decide
theorem ix_n (x : Ix) : ix x.n = x := by cases x <;> rfl
theorem slot_surj (s : Slot) : ∃ n, n < 512 ∧ s = slot n := by
  obtain ⟨x, y, z⟩ := s
  have hx := x.lt
  have hy := y.lt
  have hz := z.lt
  refine ⟨64 * x.n + 8 * y.n + z.n, by omega, ?_⟩
  simp only [slot, Slot.mk.injEq]
  refine ⟨?_, ?_, ?_⟩
  · rw [show (64 * x.n + 8 * y.n + z.n) / 64 = x.n by omega, ix_n]
  · rw [show (64 * x.n + 8 * y.n + z.n) / 8 % 8 = y.n by omega, ix_n]
  · rw [show (64 * x.n + 8 * y.n + z.n) % 8 = z.n by omega, ix_n]
theorem next {ops : List Oper} {R : Nat → Nat → Prop} {listed : Array Bool} {p q : List Nat} {i : Nat} {o : Oper} (hsz : listed.size = ops.length) (hl : ∀ k, k ∈ p ++ i :: q ↔ k < ops.length ∧ listed.getD k true = false)
    (hpw : (p ++ i :: q).Pairwise fun k j => k ≠ j ∧ R k j) (hcl : Closed ops listed) (ho : ops[i]? = some o) (hra : ∀ e ∈ o.after.toList, Region.binds .any e = true → listed.getD e.on false = true) :
    (∀ k, k ∈ p ++ q ↔ k < ops.length ∧ (listed.setIfInBounds i true).getD k true = false) ∧ Closed ops (listed.setIfInBounds i true) := by
  have hif := (List.getElem?_eq_some_iff.1 ho).1
  have hget : ∀ k b, (listed.setIfInBounds i true).getD k b = if k = i then true else listed.getD k b := fun k b => by
    rw [Array.getD_eq_getD_getElem?, Array.getD_eq_getD_getElem?]
    by_cases h : k = i
    · subst h; simp [show k < listed.size by omega]
    · rw [if_neg h, Array.getElem?_setIfInBounds_ne (fun e => h e.symm)]
  have hni : i ∉ p ++ q := by
    have h1 := List.pairwise_append.1 hpw
    intro h
    rcases List.mem_append.1 h with h | h
    · exact (h1.2.2 i h i (by simp)).1 rfl
    · exact ((List.pairwise_cons.1 h1.2.1).1 i h).1 rfl
  refine ⟨fun k => ?_, fun k o' ho' hk e he hb => ?_⟩
  · rw [hget]
    by_cases h : k = i
    · subst h; simp only [hni, if_true, false_iff]; rintro ⟨_, h⟩; cases h
    · rw [if_neg h, ← hl k]
      simp [h]
  · rw [hget] at hk ⊢
    split
    · rfl
    · split at hk
      · rename_i h; subst h
        rw [ho] at ho'; simp at ho'; subst ho'
        exact hra e he hb
      · exact hcl k o' ho' hk e he hb
theorem upon_some {o : Oper} {a : Act} {K : Act → World → Prop} {r : Result Next} (h : Oper.upon P o a K (fun _ _ _ => False) r) : ∃ a' w', K a' w' := by
  unfold Oper.upon at h
  split at h
  · exact ⟨_, _, h⟩
  · exact ⟨_, _, h⟩
  · exact ⟨_, _, h⟩
  · obtain ⟨e, w', fr, hR, _⟩ := h []
    split at hR
    · exact ⟨_, _, hR⟩
    · exact hR.elim
    · obtain ⟨_, _, hf⟩ := hR; exact hf.elim
  · rename_i row args w'
    obtain ⟨v, w2, hR, _⟩ := h (Frame.ofRow P row args .normal) []
    exact ⟨_, _, hR⟩
  · exact h.elim
  · exact h.elim
/-- where a step may be taken, what it leads to is told of some frame -/
theorem virt {ops : List Oper} {gs : List GI} (hm : Made P nt n0 ms ops gs) (hG0 : G0.length ≤ n0) (hD : DomOk w0 D) (hDp : DomOk w0 Dp) {st st' : St} {a : Act} {w : World} (hF : FInv nt w0 G0 D Dp st a w) {k : Nat} {gi : GI} (hk : gs[k]? = some gi) (hs : gi.step P st st') :
    ∃ a' w', FInv nt w0 G0 D Dp st' a' w' := by
  obtain ⟨o, h4, h5⟩ := hm k gi hk
  have h := soundG (Q := fun _ _ _ => False) (K := fun a' w' => FInv nt w0 G0 D Dp st' a' w') h4 h5 hG0 hD hDp hF hs (fun a' w' h => h)
  have h4' : ops.toArray[k]? = some o := by simpa using h4
  unfold wpOp at h
  simp only [h4'] at h
  split at h
  · rcases h with h | ⟨_, _, _, hf⟩
    · exact upon_some h
    · exact hf.elim
  · exact ⟨_, _, h⟩
theorem okP_now {st : St} {a : Act} {w : World} (hF : FInv nt w0 G0 D Dp st a w) {i : PI} (hfix : i.pos.all PO.fixed = true) : ∀ x ∈ i.pos, OkP st.bx.length (st.ev x) := by
  obtain ⟨G, R, hFI⟩ := hF
  intro x hx
  rw [List.all_eq_true] at hfix
  have := hfix x hx
  cases x with
  | k v => exact okP_noPb this
  | s j =>
    obtain ⟨m, hm5, rfl⟩ := slot_surj j
    refine okP_of_rel (fun i g hg => ?_) (hFI.slots m hm5)
    rw [← hFI.bxn]
    exact (List.getElem?_eq_some_iff.1 hg).1
theorem qv_grow {gi : GI} {st : St} {ex : List (List PV)} (hok : ∀ x ∈ gi.i.pos, OkP st.bx.length (st.ev x)) {v : PV} (hq : gi.qv P st v) : gi.qv P ⟨st.s, st.bx ++ ex, st.rw⟩ v := by
  unfold GI.qv at *
  cases hg : gi.g with
  | none =>
    rw [hg] at hq
    exact yields_grow hok hq
  | some sb =>
    obtain ⟨s, b⟩ := sb
    rw [hg] at hq
    obtain ⟨t, h1, h2⟩ := hq
    refine ⟨t, h1, ?_⟩
    split
    · rename_i htb
      rw [if_pos htb] at h2
      exact yields_grow hok h2
    · rename_i htb
      rw [if_neg htb] at h2; exact h2
theorem new_front {ops : List Oper} {gs : List GI} (hm : Made P nt n0 ms ops gs) (hG0 : G0.length ≤ n0) (hD : DomOk w0 D) (hDp : DomOk w0 Dp) {i : Nat} {d : Slot} {zs : List PV} (hgi : gs[i]? = some ⟨none, .new d zs⟩) {K : St → Prop} : ∀ (p q : List Nat) (st : St) (a : Act) (w : World), FInv nt w0 G0 D Dp st a w →
    (∀ k ∈ p, ∀ gk, gs[k]? = some gk → indepN gk ⟨none, .new d zs⟩ = true) → runI P gs (p ++ i :: q) st K → runI P gs (i :: (p ++ q)) st K
  | [], q, st, _, _, _, _, h => h
  | k :: p, q, st, a, w, hF, hp, ⟨gk, S1, h1, h2, h3⟩ => by
    obtain ⟨a1, w1, hF1⟩ := virt hm hG0 hD hDp hF h1 h2
    obtain ⟨gi', S2, h4, h5, h6⟩ := new_front hm hG0 hD hDp hgi p q S1 a1 w1 hF1 (fun j hj => hp j (by simp [hj])) h3
    rw [hgi] at h4; simp at h4; subst h4
    have hik := hp k (by simp) gk h1
    simp only [indepN, Bool.and_eq_true, Bool.not_eq_true'] at hik
    obtain ⟨⟨hfix, hq⟩, hd⟩ := hik
    cases hdk : gk.i.dst with
    | none => rw [hdk] at hd; cases hd
    | some dk =>
      rw [hdk] at hd
      simp only [Bool.and_eq_true, bne_iff_ne, ne_eq, Bool.not_eq_true', List.contains_eq_mem, decide_eq_false_iff_not] at hd
      obtain ⟨hne, hrd⟩ := hd
      rw [gstep_quiet hq hdk] at h2
      obtain ⟨v, hv, rfl⟩ := h2
      have h5 : S2 = ⟨(st.s.put dk v).put d (.pb st.bx.length 0), st.bx ++ [zs], st.rw⟩ := h5
      subst h5
      refine ⟨⟨none, .new d zs⟩, ⟨st.s.put d (.pb st.bx.length 0), st.bx ++ [zs], st.rw⟩, hgi, rfl, gk, _, h1, (gstep_quiet hq hdk).2 ⟨v, ?_, ?_⟩, h6⟩
      · refine qv_congr (st := ⟨st.s, st.bx ++ [zs], st.rw⟩) (st' := ⟨st.s.put d (.pb st.bx.length 0), st.bx ++ [zs], st.rw⟩) (fun s hs => ?_) rfl (qv_grow (okP_now hF hfix) hv)
        show st.s.get s = (st.s.put d _).get s
        rw [Slots.get_put, if_neg (fun (e : s = d) => hrd (by rw [← e]; exact hs))]
      · show (⟨(st.s.put dk v).put d _, _, _⟩ : St) = ⟨(st.s.put d _).put dk v, _, _⟩
        rw [Slots.put_comm _ hne]
theorem take_front {ops : List Oper} {gs : List GI} (hm : Made P nt n0 ms ops gs) (hG0 : G0.length ≤ n0) (hD : DomOk w0 D) (hDp : DomOk w0 Dp) {st : St} {a : Act} {w : World} (hF : FInv nt w0 G0 D Dp st a w) {i : Nat} (hi : i < gs.length) {p q : List Nat} (hpl : ∀ k ∈ p, k < gs.length) (hp : ∀ k ∈ p, ∀ gk, gs[k]? = some gk → indep gk gs[i] = true) {K : St → Prop} (hr : runI P gs (p ++ i :: q) st K) :
    ∃ st', gs[i].step P st st' ∧ runI P gs (p ++ q) st' K := by
  have hgi : gs[i]? = some gs[i] := List.getElem?_eq_getElem hi
  by_cases hp0 : p = []
  · subst hp0
    obtain ⟨gi, st', h4, h5, h6⟩ := hr
    rw [hgi] at h4; simp at h4; subst h4
    exact ⟨st', h5, h6⟩
  obtain ⟨k0, hk0⟩ := List.exists_mem_of_ne_nil p hp0
  by_cases hnew : ∃ d zs, gs[i] = ⟨none, .new d zs⟩
  · obtain ⟨d, zs, hn⟩ := hnew
    have hp' : ∀ k ∈ p, ∀ gk, gs[k]? = some gk → indepN gk ⟨none, .new d zs⟩ = true := fun k hk gk hgk => by
      have := hp k hk gk hgk
      rw [hn] at this
      simp only [indep, Bool.or_eq_true] at this
      rcases this with h | h
      · simp [indepQ, PI.acts] at h
      · exact h
    rw [hn] at hgi
    obtain ⟨gi, st', h4, h5, h6⟩ := new_front hm hG0 hD hDp hgi p q st a w hF hp' hr
    rw [hgi] at h4; simp at h4; subst h4
    exact ⟨st', by rw [hn]; exact h5, h6⟩
  · have hp' : ∀ k ∈ p, ∀ gk, gs[k]? = some gk → indepQ gk gs[i] = true := fun k hk gk hgk => by
      have := hp k hk gk hgk
      simp only [indep, Bool.or_eq_true] at this
      rcases this with h | h
      · exact h
      · exfalso
        unfold indepN at h
        simp only [Bool.and_eq_true] at h
        have h := h.2
        split at h
        · rename_i dy z he; exact hnew ⟨_, _, he⟩
        · cases h
    have hind := hp' k0 hk0 (gs[k0]'(hpl k0 hk0)) (List.getElem?_eq_getElem (hpl k0 hk0))
    have hfix : gs[i].i.pos.all PO.fixed = true := by
      simp only [indepQ, Bool.and_eq_true] at hind
      exact hind.1.1.1
    obtain ⟨gi, st', h4, h5, h6⟩ := run_front hgi p q st hp' (okP_now hF hfix) hr
    rw [hgi] at h4; simp at h4; subst h4
    exact ⟨st', h5, h6⟩
theorem any_sound {ops : List Oper} {gs : List GI} {bm : List Nat} (hm : Made P nt n0 ms ops gs) (hgl : gs.length = ops.length) (hbm : bmOk ops bm = true) (hbk : backOk ops = true) (hG0 : G0.length ≤ n0) (hD : DomOk w0 D) (hDp : DomOk w0 Dp) {K : St → Prop} (hQ : ∀ st' a' w', K st' → FInv nt w0 G0 D Dp st' a' w' → Q .normal a' w') :
    ∀ (n : Nat) (l : List Nat) (listed : Array Bool) (st : St) (a : Act) (w : World), l.length = n → listed.size = ops.length → (∀ k, k ∈ l ↔ k < ops.length ∧ listed.getD k true = false) →
      (l.Pairwise fun k j => k ≠ j ∧ ((bm.getD j 0).testBit k = true ∨ ∀ x y, gs[k]? = some x → gs[j]? = some y → indep x y = true)) → Closed ops listed → runI P gs l st K → FInv nt w0 G0 D Dp st a w → wpAny P .any ops.toArray Q n listed a w := by
  intro n
  have hrd : ∀ {l : List Nat} {listed : Array Bool}, (∀ k, k ∈ l ↔ k < ops.length ∧ listed.getD k true = false) → ∀ i, i ∈ Region.ready .any ops.toArray listed → i ∈ l ∧ ∃ o, ops[i]? = some o ∧ ∀ e ∈ o.after.toList, Region.binds .any e = true → listed.getD e.on false = true := by
    intro l listed hl i hi
    obtain ⟨h1, o, h2, h3⟩ := mem_ready.1 hi
    have h2' : ops[i]? = some o := by simpa using h2
    exact ⟨(hl i).2 ⟨(List.getElem?_eq_some_iff.1 h2').1, h1⟩, o, h2', fun e he hb => h3 e (by simpa using he) hb⟩
  induction n with
  | zero =>
    intro l listed st a w hn hsz hl _ _ hr hF
    obtain rfl : l = [] := List.eq_nil_of_length_eq_zero hn
    refine ⟨?_, hQ st a w hr hF⟩
    cases hrr : Region.ready .any ops.toArray listed with
    | nil => rfl
    | cons i r => exact absurd (hrd hl i (by rw [hrr]; simp)).1 (by simp)
  | succ n ih =>
    intro l listed st a w hn hsz hl hpw hcl hr hF
    refine ⟨fun h0 => ?_, fun i hi => ?_⟩
    · -- somebody may come up: the first of those with none before them
      exfalso
      have hex : ∃ k, k ∈ l := by
        cases l with
        | nil => simp at hn
        | cons k r => exact ⟨k, by simp⟩
      have least : ∃ k, k ∈ l ∧ ∀ j, j < k → j ∉ l := by
        obtain ⟨k, hk⟩ := hex
        induction k using Nat.strongRecOn with
        | _ k ihk =>
          by_cases hj : ∃ j, j < k ∧ j ∈ l
          · obtain ⟨j, hj1, hj2⟩ := hj
            exact ihk j hj1 hj2
          · exact ⟨k, hk, fun j hjk hjl => hj ⟨j, hjk, hjl⟩⟩
      obtain ⟨k, hk1, hk2⟩ := least
      have hkl := (hl k).1 hk1
      have hin : k ∈ Region.ready .any ops.toArray listed := by
        refine mem_ready.2 ⟨hkl.2, ops[k]'hkl.1, by simp [hkl.1], fun e he hb => ?_⟩
        simp only [backOk, List.all_eq_true, List.mem_range] at hbk
        have := hbk k hkl.1
        rw [List.getElem?_eq_getElem hkl.1] at this
        simp only [List.all_eq_true, Bool.or_eq_true, Bool.not_eq_true', decide_eq_true_eq] at this
        have hlt : e.on < k := by
          rcases this e (by simpa using he) with h | h
          · rw [hb] at h; cases h
          · exact h
        have hnl := hk2 e.on hlt
        rw [hl e.on] at hnl
        have heo : e.on < ops.length := by omega
        have h3 : listed.getD e.on true ≠ false := fun h => hnl ⟨heo, h⟩
        rw [Array.getD_eq_getD_getElem?, Array.getElem?_eq_getElem (by omega)] at h3 ⊢
        simpa using h3
      rw [h0] at hin; cases hin
    · obtain ⟨hil, o, ho, hra⟩ := hrd hl i hi
      obtain ⟨p, q, rfl⟩ := List.append_of_mem hil
      have hif : i < ops.length := (List.getElem?_eq_some_iff.1 ho).1
      have hgi : gs[i]? = some gs[i] := List.getElem?_eq_getElem (by omega)
      have hw := waits hbm hcl i o ho hra
      have hp : ∀ k ∈ p, ∀ gk, gs[k]? = some gk → indep gk gs[i] = true := by
        intro k hk gk hgk
        have h1 := (List.pairwise_append.1 hpw).2.2 k hk i (by simp)
        rcases h1.2 with h | h
        · exfalso
          have hkl := (hl k).1 (by simp [hk])
          have h2 := hw k hkl.1 h
          have h3 := hkl.2
          rw [Array.getD_eq_getD_getElem?, Array.getElem?_eq_getElem (by omega)] at h2 h3
          simp only [Option.getD_some] at h2 h3
          rw [h2] at h3; cases h3
        · exact h gk gs[i] hgk hgi
      obtain ⟨o', ho', hco⟩ := hm i gs[i] hgi
      obtain ⟨st', h5, h6⟩ := take_front hm hG0 hD hDp hF (by omega) (fun k hk => by rw [hgl]; exact ((hl k).1 (by simp [hk])).1) hp hr
      refine soundG ho' hco hG0 hD hDp hF h5 fun a' w' hF' => ?_
      exact ih (p ++ q) _ st' a' w' (by simp at hn ⊢; omega) (by simpa using hsz) (next hsz hl hpw hcl ho hra).1 (hpw.sublist (by simp)) (next hsz hl hpw hcl ho hra).2 h6 hF'
end
/-! ### a region with one pair whose order counts -/
section
variable {P : Program} {nt n0 : Nat} {ms : List FuncId} {w0 : World} {G0 : List Nat} {D Dp : Nat → Nat → Prop}
theorem runI_append {gs : List GI} {B : List Nat} {K : St → Prop} : ∀ {A : List Nat} {st : St}, runI P gs (A ++ B) st K ↔ runI P gs A st (fun st => runI P gs B st K)
  | [], st => Iff.rfl
  | k :: A, st => by
    show (∃ gi st', _ ∧ _ ∧ runI P gs (A ++ B) st' K) ↔ ∃ gi st', _ ∧ _ ∧ runI P gs A st' _
    simp only [runI_append]
theorem runI_mono {gs : List GI} {K K' : St → Prop} (h : ∀ st, K st → K' st) : ∀ {A : List Nat} {st : St}, runI P gs A st K → runI P gs A st K'
  | [], st, hr => h st hr
  | _k :: _A, _st, ⟨gi, st', h1, h2, h3⟩ => ⟨gi, st', h1, h2, runI_mono h h3⟩
theorem fork_sound {ops : List Oper} {gs : List GI} {bm : List Nat} {Q : Exit → Act → World → Prop} (hm : Made P nt n0 ms ops gs) (hgl : gs.length = ops.length) (hbm : bmOk ops bm = true) (hbk : backOk ops = true) (hG0 : G0.length ≤ n0) (hD : DomOk w0 D) (hDp : DomOk w0 Dp)
    {K : St → Prop} (hQ : ∀ st' a' w', K st' → FInv nt w0 G0 D Dp st' a' w' → Q .normal a' w') {x y : Nat} {r : List Nat} (hrest : ∀ j ∈ r, (bm.getD j 0).testBit x = true ∨ (bm.getD j 0).testBit y = true) :
    ∀ (n : Nat) (A : List Nat) (listed : Array Bool) (st : St) (a : Act) (w : World), A.length = n → listed.size = ops.length → (∀ k, k ∈ A ++ x :: y :: r ↔ k < ops.length ∧ listed.getD k true = false) →
      (A ++ x :: y :: r).Pairwise (fun k j => k ≠ j ∧ True) →
      ((A ++ y :: r).Pairwise fun k j => k ≠ j ∧ ((bm.getD j 0).testBit k = true ∨ ∀ x y, gs[k]? = some x → gs[j]? = some y → indep x y = true)) →
      ((A ++ x :: r).Pairwise fun k j => k ≠ j ∧ ((bm.getD j 0).testBit k = true ∨ ∀ x y, gs[k]? = some x → gs[j]? = some y → indep x y = true)) →
      Closed ops listed → runI P gs A st (fun st => runI P gs (x :: y :: r) st K ∧ runI P gs (y :: x :: r) st K) → FInv nt w0 G0 D Dp st a w → wpAny P .any ops.toArray Q (n + (r.length + 2)) listed a w := by
  have hrd : ∀ {l : List Nat} {listed : Array Bool}, (∀ k, k ∈ l ↔ k < ops.length ∧ listed.getD k true = false) → ∀ i, i ∈ Region.ready .any ops.toArray listed → i ∈ l ∧ ∃ o, ops[i]? = some o ∧ ∀ e ∈ o.after.toList, Region.binds .any e = true → listed.getD e.on false = true := by
    intro l listed hl i hi
    obtain ⟨h1, o, h2, h3⟩ := mem_ready.1 hi
    have h2' : ops[i]? = some o := by simpa using h2
    exact ⟨(hl i).2 ⟨(List.getElem?_eq_some_iff.1 h2').1, h1⟩, o, h2', fun e he hb => h3 e (by simpa using he) hb⟩
  have hne : ∀ {listed : Array Bool} {l : List Nat} {k : Nat}, listed.size = ops.length → (∀ k, k ∈ l ↔ k < ops.length ∧ listed.getD k true = false) → k ∈ l → Region.ready .any ops.toArray listed ≠ [] := by
    intro listed l k hsz hl hk h0
    have least : ∃ k, k ∈ l ∧ ∀ j, j < k → j ∉ l := by
      induction k using Nat.strongRecOn with
      | _ k ihk =>
        by_cases hj : ∃ j, j < k ∧ j ∈ l
        · obtain ⟨j, hj1, hj2⟩ := hj
          exact ihk j hj1 hj2
        · exact ⟨k, hk, fun j hjk hjl => hj ⟨j, hjk, hjl⟩⟩
    obtain ⟨k, hk1, hk2⟩ := least
    have hkl := (hl k).1 hk1
    have hin : k ∈ Region.ready .any ops.toArray listed := by
      refine mem_ready.2 ⟨hkl.2, ops[k]'hkl.1, by simp [hkl.1], fun e he hb => ?_⟩
      simp only [backOk, List.all_eq_true, List.mem_range] at hbk
      have := hbk k hkl.1
      rw [List.getElem?_eq_getElem hkl.1] at this
      simp only [List.all_eq_true, Bool.or_eq_true, Bool.not_eq_true', decide_eq_true_eq] at this
      have hlt : e.on < k := by
        rcases this e (by simpa using he) with h | h
        · rw [hb] at h; cases h
        · exact h
      have hnl := hk2 e.on hlt
      rw [hl e.on] at hnl
      have heo : e.on < ops.length := by omega
      have h3 : listed.getD e.on true ≠ false := fun h => hnl ⟨heo, h⟩
      rw [Array.getD_eq_getD_getElem?, Array.getElem?_eq_getElem (by omega)] at h3 ⊢
      simpa using h3
    rw [h0] at hin; cases hin
  -- one that is unlisted is not waited for by one that is ready
  have hfree : ∀ {listed : Array Bool} {l : List Nat} {i k : Nat} {o : Oper}, listed.size = ops.length → (∀ k, k ∈ l ↔ k < ops.length ∧ listed.getD k true = false) → Closed ops listed → ops[i]? = some o → (∀ e ∈ o.after.toList, Region.binds .any e = true → listed.getD e.on false = true) → k ∈ l → (bm.getD i 0).testBit k = true → False := by
    intro listed l i k o hsz hl hcl ho hra hk h
    have hkl := (hl k).1 hk
    have h2 := waits hbm hcl i o ho hra k hkl.1 h
    have h3 := hkl.2
    rw [Array.getD_eq_getD_getElem?, Array.getElem?_eq_getElem (by omega)] at h2 h3
    simp only [Option.getD_some] at h2 h3
    rw [h2] at h3; cases h3
  intro n
  induction n using Nat.strongRecOn with
  | _ n ih =>
    intro A listed st a w hn hsz hl hnd hP1 hP2 hcl hr hF
    obtain ⟨f, hf⟩ : ∃ f, n + (r.length + 2) = f + 1 := ⟨n + (r.length + 1), by omega⟩
    rw [hf]
    refine ⟨fun h0 => absurd h0 (hne (k := x) hsz hl (by simp)), fun i hi => ?_⟩
    obtain ⟨hil, o, ho, hra⟩ := hrd hl i hi
    have hif : i < ops.length := (List.getElem?_eq_some_iff.1 ho).1
    obtain ⟨o', ho', hco⟩ := hm i gs[i] (List.getElem?_eq_getElem (by omega))
    have hlt : ∀ k, k ∈ A ++ x :: y :: r → k < gs.length := fun k hk => by have := ((hl k).1 hk).1; omega
    rcases List.mem_append.1 hil with hA | hB
    · obtain ⟨p, q, rfl⟩ := List.append_of_mem hA
      have hp : ∀ k ∈ p, ∀ gk, gs[k]? = some gk → indep gk gs[i] = true := by
        intro k hk gk hgk
        have h1 := (List.pairwise_append.1 (List.pairwise_append.1 hP1).1).2.2 k hk i (by simp)
        rcases h1.2 with h | h
        · exact (hfree hsz hl hcl ho hra (by simp [hk]) h).elim
        · exact h gk gs[i] hgk (List.getElem?_eq_getElem (by omega))
      obtain ⟨st', h5, h6⟩ := take_front hm hG0 hD hDp hF (by omega) (fun k hk => hlt k (by simp [hk])) hp hr
      refine soundG ho' hco hG0 hD hDp hF h5 fun a' w' hF' => ?_
      have hnx := next (p := p) (q := q ++ x :: y :: r) (R := fun _ _ => True) hsz (by simpa using hl) (by simpa using hnd) hcl ho hra
      have hsub : ∀ B, ((p ++ q) ++ B).Sublist ((p ++ i :: q) ++ B) := fun B => List.Sublist.append_right (List.Sublist.append_left (List.sublist_cons_self i q) p) B
      have hfe : f = (p ++ q).length + (r.length + 2) := by simp at hn ⊢; omega
      rw [hfe]
      exact ih (p ++ q).length (by simp at hn ⊢; omega) (p ++ q) _ st' a' w' rfl (by simpa using hsz) (by simpa using hnx.1) (hnd.sublist (hsub _)) (hP1.sublist (hsub _)) (hP2.sublist (hsub _)) hnx.2 h6 hF'
    · rcases List.mem_cons.1 hB with rfl | hB
      · have hp : ∀ k ∈ A, ∀ gk, gs[k]? = some gk → indep gk gs[i] = true := by
          intro k hk gk hgk
          have h1 := (List.pairwise_append.1 hP2).2.2 k hk i (by simp)
          rcases h1.2 with h | h
          · exact (hfree hsz hl hcl ho hra (by simp [hk]) h).elim
          · exact h gk gs[i] hgk (List.getElem?_eq_getElem (by omega))
        have hr1 : runI P gs (A ++ i :: y :: r) st K := runI_append.2 (runI_mono (fun _ h => h.1) hr)
        obtain ⟨st', h5, h6⟩ := take_front hm hG0 hD hDp hF (by omega) (fun k hk => hlt k (by simp [hk])) hp hr1
        refine soundG ho' hco hG0 hD hDp hF h5 fun a' w' hF' => ?_
        have hnx := next (R := fun _ _ => True) hsz hl hnd hcl ho hra
        exact any_sound hm hgl hbm hbk hG0 hD hDp hQ f (A ++ y :: r) _ st' a' w' (by simp; omega) (by simpa using hsz) hnx.1 hP1 hnx.2 h6 hF'
      rcases List.mem_cons.1 hB with rfl | hB
      · have hp : ∀ k ∈ A, ∀ gk, gs[k]? = some gk → indep gk gs[i] = true := by
          intro k hk gk hgk
          have h1 := (List.pairwise_append.1 hP1).2.2 k hk i (by simp)
          rcases h1.2 with h | h
          · exact (hfree hsz hl hcl ho hra (by simp [hk]) h).elim
          · exact h gk gs[i] hgk (List.getElem?_eq_getElem (by omega))
        have hr1 : runI P gs (A ++ i :: x :: r) st K := runI_append.2 (runI_mono (fun _ h => h.2) hr)
        obtain ⟨st', h5, h6⟩ := take_front hm hG0 hD hDp hF (by omega) (fun k hk => hlt k (by simp [hk])) hp hr1
        refine soundG ho' hco hG0 hD hDp hF h5 fun a' w' hF' => ?_
        have hnx := next (p := A ++ [x]) (q := r) (R := fun _ _ => True) hsz (by simpa using hl) (by simpa using hnd) hcl ho hra
        exact any_sound hm hgl hbm hbk hG0 hD hDp hQ f (A ++ x :: r) _ st' a' w' (by simp; omega) (by simpa using hsz) (by simpa using hnx.1) hP2 hnx.2 h6 hF'
      · rcases hrest i hB with h | h
        · exact (hfree hsz hl hcl ho hra (by simp) h).elim
        · exact (hfree hsz hl hcl ho hra (by simp) h).elim
end
end Go.Proofs.Ytdkancgcefklfaa
