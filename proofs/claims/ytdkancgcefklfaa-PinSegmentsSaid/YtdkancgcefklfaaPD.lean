/-
  What an operation over plain views looks at; that it may be taken earlier.
-/
import Derived.Test.YtdkancgcefklfaaPC
namespace Go.Proofs.Ytdkancgcefklfaa
open Go.RowKit

/-- the operands of an operation that only makes a value -/
def PI.pos : PI → List PO
  | .mov _ x | .box _ x | .ld _ _ _ x | .not _ x | .cvi _ _ x | .cbs _ x | .csb _ x | .fa _ x _ | .fld _ x _ _ _ | .ext _ x _ | .len _ x | .lns _ x | .cap _ x | .clr x _ _ => [x]
  | .pick _ c a b => [c, a, b]
  | .bld _ _ ps => ps.map (·.2.2)
  | .lit _ _ _ _ ps => ps.map (·.2)
  | .new _ _ => []
  | .st p x _ => [p, x]
  | .ar _ _ _ x y | .dv _ _ _ x y | .cmp _ _ x y | .seq _ _ x y | .beq _ _ x y | .aeq _ _ _ x y | .cat _ x y | .scmp _ _ x y | .ia _ x y _ | .iap _ x y _ _ | .ixs _ x y | .mm _ _ x y | .app _ x y _ _ _ _ | .sh _ _ _ x y | .mks _ _ _ _ x y | .cpy _ x y _ => [x, y]
  | .slc _ x lo hi mx _ => x :: (lo.toList ++ hi.toList ++ mx.toList)
  | .sls _ x lo hi => x :: (lo.toList ++ hi.toList)
  | .call _ _ xs => xs
  | .calv _ x xs => x :: xs
  | .callm _ _ _ xs => xs
  | .calvm _ x xs => x :: xs
  | .mkf _ _ xs => xs
def PI.acts : PI → Bool
  | .new .. | .box .. | .st .. | .app .. | .mks .. | .cpy .. | .clr .. | .callm .. | .calvm .. => true
  | _ => false
section
variable {P : Program} {ρ ρ' : PO → PV} {bx : List (List PV)} {v : PV}
theorem fillP_congr : ∀ {ps : List (Nat × Nat × PO)} {cs : List PV}, (∀ x ∈ ps.map (·.2.2), ρ x = ρ' x) → fillP ρ ps cs = fillP ρ' ps cs
  | [], _, _ => rfl
  | (off, n, x) :: r, cs, h => by
    have hx : ρ x = ρ' x := h x (by simp)
    simp only [fillP, hx]
    rw [fillP_congr (fun y hy => h y (by simp only [List.map_cons, List.mem_cons]; exact .inr hy))]
theorem fillE_congr {sz : Nat} : ∀ {ps : List (Nat × PO)} {es : List (List PV)}, (∀ x ∈ ps.map (·.2), ρ x = ρ' x) → fillE ρ sz ps es = fillE ρ' sz ps es
  | [], _, _ => rfl
  | (i, x) :: r, es, h => by
    have hx : ρ x = ρ' x := h x (by simp)
    simp only [fillE, hx]
    rw [fillE_congr (fun y hy => h y (by simp only [List.map_cons, List.mem_cons]; exact .inr hy))]
theorem low_congr {n l : Nat} {lo : Option PO} (h : ∀ x ∈ lo.toList, ρ x = ρ' x) (hl : lowOf ρ n lo l) : lowOf ρ' n lo l := by
  cases lo with
  | none => exact hl
  | some x => obtain ⟨k, h1, h2⟩ := hl; exact ⟨k, by rw [← h x (by simp)]; exact h1, h2⟩
theorem high_congr {n l : Nat} {lo : Option PO} (h : ∀ x ∈ lo.toList, ρ x = ρ' x) (hl : highOf ρ n lo l) : highOf ρ' n lo l := by
  cases lo with
  | none => exact hl
  | some x => obtain ⟨k, h1, h2⟩ := hl; exact ⟨k, by rw [← h x (by simp)]; exact h1, h2⟩
theorem highB_congr {n l : Nat} {c : Option Nat} {lo : Option PO} (h : ∀ x ∈ lo.toList, ρ x = ρ' x) (hl : highB ρ n c lo l) : highB ρ' n c lo l := by
  cases lo with
  | none => exact hl
  | some x => obtain ⟨k, h1, h2⟩ := hl; exact ⟨k, by rw [← h x (by simp)]; exact h1, h2⟩
theorem max_congr {es : List (List PV)} {n : Nat} {o o' : Own} {mx : Option PO} (h : ∀ x ∈ mx.toList, ρ x = ρ' x) (hl : maxOf ρ es n o o' mx) : maxOf ρ' es n o o' mx := by
  cases mx with
  | none => exact hl
  | some x => obtain ⟨⟨k, h1⟩, h2⟩ := hl; exact ⟨⟨k, by rw [← h x (by simp)]; exact h1⟩, h2⟩
theorem yields_congr {i : PI} (h : ∀ x ∈ i.pos, ρ x = ρ' x) (hy : i.yields P ρ bx v) : i.yields P ρ' bx v := by
  cases i with
  | bld d zs ps => obtain ⟨cs, h1, h2⟩ := hy; exact ⟨cs, by rw [← fillP_congr h]; exact h1, h2⟩
  | lit d sz zs n ps =>
    rcases hy with ⟨cs, h0, h1, h2⟩ | ⟨x, f, cs, h0, rfl, h2, h3, h4, h5⟩
    · exact .inl ⟨cs, h0, by rw [← fillE_congr h]; exact h1, h2⟩
    · exact .inr ⟨x, f, cs, h0, rfl, h2, h3, by rw [← h x (by simp [PI.pos])]; exact h4, h5⟩
  | slc d x lo hi mx sz =>
    have hx : ρ x = ρ' x := h x (by simp [PI.pos])
    have hlo : ∀ y ∈ lo.toList, ρ y = ρ' y := fun y hy => h y (by simp only [PI.pos, List.mem_cons, List.mem_append]; exact .inr (.inl (.inl hy)))
    have hhi : ∀ y ∈ hi.toList, ρ y = ρ' y := fun y hy => h y (by simp only [PI.pos, List.mem_cons, List.mem_append]; exact .inr (.inl (.inr hy)))
    rcases hy with ⟨s, es, o, l, hh, o', h1, h2, h3, h4, h5, h6⟩ | ⟨b, off, m, c, l, hh, h1, h2, h3, h4, h5⟩
    · exact .inl ⟨s, es, o, l, hh, o', by rw [← hx]; exact h1, high_congr hhi h2, low_congr hlo h3, h4, h5, max_congr (fun y hy => h y (by simp only [PI.pos, List.mem_cons, List.mem_append]; exact .inr (.inr hy))) h6⟩
    · exact .inr ⟨b, off, m, c, l, hh, by rw [← hx]; exact h1, h2, highB_congr hhi h3, low_congr hlo h4, h5⟩
  | sls d x lo hi =>
    have hx : ρ x = ρ' x := h x (by simp [PI.pos])
    obtain ⟨s, l, hh, h1, h2, h3, h4⟩ := hy
    exact ⟨s, l, hh, by rw [← hx]; exact h1, high_congr (fun y hy => h y (by simp only [PI.pos, List.mem_cons, List.mem_append]; exact .inr (.inr hy))) h2, low_congr (fun y hy => h y (by simp only [PI.pos, List.mem_cons, List.mem_append]; exact .inr (.inl hy))) h3, h4⟩
  | call d f xs =>
    have : xs.map (fun x => share bx (ρ x)) = xs.map (fun x => share bx (ρ' x)) := List.map_congr_left fun x hx => by rw [h x hx]
    simp only [PI.yields] at hy ⊢
    rw [← this]; exact hy
  | calv d x xs =>
    have hx : ρ x = ρ' x := h x (by simp [PI.pos])
    have : xs.map (fun x => share bx (ρ x)) = xs.map (fun x => share bx (ρ' x)) := List.map_congr_left fun y hy => by rw [h y (by simp [PI.pos, hy])]
    simp only [PI.yields] at hy ⊢
    rw [← this, ← hx]; exact hy
  | mkf d f xs =>
    simp only [PI.yields] at hy ⊢
    rw [hy]
    congr 1
    exact List.map_congr_left fun x hx => h x hx
  | _ =>
    simp only [PI.pos, List.mem_cons, List.not_mem_nil, or_false, forall_eq_or_imp, forall_eq] at h
    simp only [PI.yields] at hy ⊢ <;> (simp only [← h]; first | exact hy | (simp only [h] at hy; exact hy))

/-- no box from n on is named -/
inductive OkP (n : Nat) : PV → Prop
  | v (x : Value) : OkP n (.v x)
  | sl (s : Nat) (es : List (List PV)) (o : Own) : OkP n (.sl s es o)
  | fn (f : FuncId) (cs : List PV) (h : ∀ c ∈ cs, OkP n c) : OkP n (.fn f cs)
  | pt (cs : List PV) : OkP n (.pt cs)
  | pb (b o : Nat) (h : b < n) : OkP n (.pb b o)
  | sb (b s o k : Nat) (c : Option Nat) (h : b < n) : OkP n (.sb b s o k c)
  | agg (cs : List PV) (h : ∀ c ∈ cs, OkP n c) : OkP n (.agg cs)
  | tup (cs : List PV) (h : ∀ c ∈ cs, OkP n c) : OkP n (.tup cs)
  | fs (f : FuncId) (cs : List PV) (h : ∀ c ∈ cs, OkP n c) : OkP n (.fs f cs)
  | fp (f : FuncId) (cs : List PV) (h : ∀ c ∈ cs, OkP n c) : OkP n (.fp f cs)
  | bad : OkP n .bad
theorem RelL.mem {E : Env} {cs : List PV} {us : List Value} (h : RelL E cs us) {c : PV} (hc : c ∈ cs) : ∃ u, Rel E c u := by
  obtain ⟨j, hj, rfl⟩ := List.getElem_of_mem hc
  obtain ⟨u, _, hu⟩ := h.get (List.getElem?_eq_getElem hj)
  exact ⟨u, hu⟩
theorem okP_of_rel {E : Env} {n : Nat} (hn : ∀ i g, E.box i = some g → i < n) {p : PV} {u : Value} (h : Rel E p u) : OkP n p := by
  induction h with
  | v => exact .v _
  | sl => exact .sl _ _ _
  | fn E f cs us hl hp ih =>
    refine .fn _ _ fun c hc => ?_
    obtain ⟨j, hj, rfl⟩ := List.getElem_of_mem hc
    exact ih j _ us[j] (List.getElem?_eq_getElem hj) (List.getElem?_eq_getElem (by omega)) hn
  | pt => exact .pt _
  | pb E i off g h => exact .pb _ _ (hn _ _ h)
  | sb E i sz off n cap g c h hs => exact .sb _ _ _ _ _ (hn _ _ h)
  | agg E cs us hl hp h1 ih =>
    refine .agg _ fun c hc => ?_
    obtain ⟨j, hj, rfl⟩ := List.getElem_of_mem hc
    exact ih j _ us[j] (List.getElem?_eq_getElem hj) (List.getElem?_eq_getElem (by omega)) hn
  | tup E cs us hl hp ih =>
    refine .tup _ fun c hc => ?_
    obtain ⟨j, hj, rfl⟩ := List.getElem_of_mem hc
    exact ih j _ us[j] (List.getElem?_eq_getElem hj) (List.getElem?_eq_getElem (by omega)) hn
  | fs E f cs b o us hl hp hb hd hcl ih =>
    refine .fs _ _ fun c hc => ?_
    obtain ⟨j, hj, rfl⟩ := List.getElem_of_mem hc
    exact ih j _ us[j] (List.getElem?_eq_getElem hj) (List.getElem?_eq_getElem (by omega)) hn
  | fp E f cs b o us hl hp hb hd hcl ih =>
    refine .fp _ _ fun c hc => ?_
    obtain ⟨j, hj, rfl⟩ := List.getElem_of_mem hc
    exact ih j _ us[j] (List.getElem?_eq_getElem hj) (List.getElem?_eq_getElem (by omega)) hn
  | bad => exact .bad
theorem getD_ext {bx ex : List (List PV)} {b : Nat} (h : b < bx.length) : (bx ++ ex).getD b [] = bx.getD b [] := by
  simp only [List.getD_eq_getElem?_getD]
  rw [List.getElem?_append_left h]
theorem shareC_ext {bx ex : List (List PV)} {p : PV} (h : OkP bx.length p) : shareC (bx ++ ex) p = shareC bx p := by
  cases h with
  | pb b o h => simp only [shareC, getD_ext h]
  | sb b s o k c h => simp only [shareC, sbSl, getD_ext h]
  | sl s es o => cases o <;> rfl
  | fn f cs h => cases cs <;> rfl
  | _ => rfl
theorem share_ext {bx ex : List (List PV)} {p : PV} (h : OkP bx.length p) : share (bx ++ ex) p = share bx p := by
  cases h with
  | agg cs h =>
    simp only [share]
    congr 1
    exact List.map_congr_left fun c hc => shareC_ext (h c hc)
  | fn f cs h =>
    simp only [share]
    congr 1
    exact List.map_congr_left fun c hc => shareC_ext (h c hc)
  | fs f cs h =>
    simp only [share]
    congr 1
    exact List.map_congr_left fun c hc => shareC_ext (h c hc)
  | fp f cs h => rfl
  | tup cs h =>
    simp only [share]
    congr 1
    refine List.map_congr_left fun c hc => ?_
    have := h c hc
    cases this with
    | agg ds h2 =>
      simp only
      congr 1
      exact List.map_congr_left fun c hc => shareC_ext (h2 c hc)
    | v x => exact shareC_ext (.v x)
    | sl s es o => exact shareC_ext (.sl s es o)
    | fn f cs h => exact shareC_ext (.fn f cs h)
    | pt cs => exact shareC_ext (.pt cs)
    | pb b o h => exact shareC_ext (.pb b o h)
    | sb b s o k c h => exact shareC_ext (.sb b s o k c h)
    | tup cs h => exact shareC_ext (.tup cs h)
    | fs f cs h => exact shareC_ext (.fs f cs h)
    | fp f cs h => exact shareC_ext (.fp f cs h)
    | bad => exact shareC_ext .bad
  | v x => rfl
  | sl s es o => exact shareC_ext (.sl s es o)
  | pt cs => rfl
  | pb b o h => exact shareC_ext (.pb b o h)
  | sb b s o k c h => exact shareC_ext (.sb b s o k c h)
  | bad => rfl
theorem yields_shrink {i : PI} {bx ex : List (List PV)} (h : ∀ x ∈ i.pos, OkP bx.length (ρ x)) (hy : i.yields P ρ (bx ++ ex) v) : i.yields P ρ bx v := by
  cases i with
  | ld d n ag p =>
    rcases hy with hy | ⟨cs, h1, h2⟩
    · exact .inl hy
    refine .inr ⟨cs, ?_, h2⟩
    rcases h1 with h1 | ⟨b, off, h1, h3⟩
    · exact .inl h1
    · refine .inr ⟨b, off, h1, ?_⟩
      have := h p (by simp [PI.pos])
      rw [h1] at this
      cases this with
      | pb b o hb => rw [h3, getD_ext hb]
  | call d f xs =>
    have : xs.map (fun x => share (bx ++ ex) (ρ x)) = xs.map (fun x => share bx (ρ x)) := List.map_congr_left fun x hx => share_ext (h x hx)
    simp only [PI.yields] at hy ⊢
    rw [← this]; exact hy
  | calv d x xs =>
    have h1 : xs.map (fun x => share (bx ++ ex) (ρ x)) = xs.map (fun x => share bx (ρ x)) := List.map_congr_left fun y hy => share_ext (h y (by simp [PI.pos, hy]))
    simp only [PI.yields] at hy ⊢
    obtain ⟨f, cs, h2, h3, h4⟩ := hy
    have h5 := h x (by simp [PI.pos])
    rw [h2] at h5
    cases h5 with
    | fn _ _ hc =>
      have h6 : cs.map (shareC (bx ++ ex)) = cs.map (shareC bx) := List.map_congr_left fun c hc' => shareC_ext (hc c hc')
      exact ⟨f, cs, h2, h3, by rw [← h1, ← h6]; exact h4⟩
  | _ => exact hy
theorem yields_grow {i : PI} {bx ex : List (List PV)} (h : ∀ x ∈ i.pos, OkP bx.length (ρ x)) (hy : i.yields P ρ bx v) : i.yields P ρ (bx ++ ex) v := by
  cases i with
  | ld d n ag p =>
    rcases hy with hy | ⟨cs, h1, h2⟩
    · exact .inl hy
    refine .inr ⟨cs, ?_, h2⟩
    rcases h1 with h1 | ⟨b, off, h1, h3⟩
    · exact .inl h1
    · refine .inr ⟨b, off, h1, ?_⟩
      have := h p (by simp [PI.pos])
      rw [h1] at this
      cases this with
      | pb b o hb => rw [h3, getD_ext hb]
  | call d f xs =>
    have : xs.map (fun x => share (bx ++ ex) (ρ x)) = xs.map (fun x => share bx (ρ x)) := List.map_congr_left fun x hx => share_ext (h x hx)
    simp only [PI.yields] at hy ⊢
    rw [this]; exact hy
  | calv d x xs =>
    have h1 : xs.map (fun x => share (bx ++ ex) (ρ x)) = xs.map (fun x => share bx (ρ x)) := List.map_congr_left fun y hy => share_ext (h y (by simp [PI.pos, hy]))
    simp only [PI.yields] at hy ⊢
    obtain ⟨f, cs, h2, h3, h4⟩ := hy
    have h5 := h x (by simp [PI.pos])
    rw [h2] at h5
    cases h5 with
    | fn _ _ hc =>
      have h6 : cs.map (shareC (bx ++ ex)) = cs.map (shareC bx) := List.map_congr_left fun c hc' => shareC_ext (hc c hc')
      exact ⟨f, cs, h2, h3, by rw [h1, h6]; exact h4⟩
  | _ => exact hy
end
theorem Oct.put_comm {α : Type} (z u v : α) (s : Oct α) {i j : Ix} (h : i ≠ j) : (s.put z u i).put z v j = (s.put z v j).put z u i := by
  cases s <;> cases i <;> cases j <;> first | rfl | exact absurd rfl h
theorem Oct.put_put {α : Type} (z u v : α) (s : Oct α) (i : Ix) : (s.put z u i).put z v i = s.put z v i := by
  cases s <;> cases i <;> rfl
theorem Slots.put_comm (s : Slots) {i j : Slot} (h : i ≠ j) (u v : PV) : (s.put i u).put j v = (s.put j v).put i u := by
  obtain ⟨x, y, z⟩ := i
  obtain ⟨x', y', z'⟩ := j
  simp only [Slots.put]
  by_cases hx : x = x'
  · subst hx
    simp only [Oct.get_put, if_true, Oct.put_put]
    by_cases hy : y = y'
    · subst hy
      simp only [if_true, Oct.put_put]
      have hz : z ≠ z' := fun e => h (by rw [e])
      rw [Oct.put_comm _ _ _ _ hz]
    · rw [if_neg (fun e => hy e.symm), if_neg hy, Oct.put_comm _ _ _ _ hy]
  · rw [Oct.get_put, if_neg (fun e => hx e.symm), Oct.get_put, if_neg hx, Oct.put_comm _ _ _ _ hx]
end Go.Proofs.Ytdkancgcefklfaa
