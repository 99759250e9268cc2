/-
  Calls, and the operations that write: boxes, stores, append.
-/
import Derived.Test.YtdkancgcefklfaaP7
import Derived.Deep.AppendSrc
import Derived.Deep.Upon
namespace Go.Proofs.Ytdkancgcefklfaa
open Go.RowKit
section
variable {P : Program} {nt : Nat} {w0 : World} {G0 : List Nat} {D Dp : Nat → Nat → Prop} {G : List Nat} {R : List (Option Rec)} {st : St} {a : Act} {w : World} {v : PV} {o : Oper}

/-! ### calls -/
theorem nodup_inj : ∀ {l : List Nat}, l.Nodup → ∀ {i j b : Nat}, l[i]? = some b → l[j]? = some b → i = j
  | [], _, i, j, b, h, _ => by simp at h
  | x :: r, hn, i, j, b, h, k => by
    have hn' := List.nodup_cons.1 hn
    cases i with
    | zero =>
      cases j with
      | zero => rfl
      | succ j => simp at h k; subst h; exact absurd (List.mem_of_getElem? k) hn'.1
    | succ i =>
      cases j with
      | zero => simp at h k; subst k; exact absurd (List.mem_of_getElem? h) hn'.1
      | succ j => simp at h k; rw [nodup_inj hn'.2 h k]
theorem posOf_some : ∀ {bs : List Nat} {b j : Nat}, posOf bs b = some j → bs[j]? = some b
  | x :: r, b, j, h => by
    simp only [posOf] at h
    split at h
    · rename_i hx; simp at h; subst h; simp [hx]
    · simp only [Option.map_eq_some_iff] at h
      obtain ⟨k, h1, rfl⟩ := h
      simpa using posOf_some h1
theorem posOf_none : ∀ {bs : List Nat} {b : Nat}, posOf bs b = none → b ∉ bs
  | [], _, _ => by simp
  | x :: r, b, h => by
    simp only [posOf] at h
    split at h
    · cases h
    · rename_i hx
      simp only [Option.map_eq_none_iff] at h
      simp only [List.mem_cons, not_or]
      exact ⟨fun e => hx e.symm, posOf_none h⟩
theorem posOf_mem {bs : List Nat} {b : Nat} (h : b ∉ bs) : posOf bs b = none := by
  cases hp : posOf bs b with
  | none => rfl
  | some j => exact absurd (List.mem_of_getElem? (posOf_some hp)) h
theorem setBx_get {α : Type} : ∀ (bs : List Nat) (cs bx : List α), bs.Nodup → (∀ b ∈ bs, b < bx.length) → bs.length ≤ cs.length →
    (setBx bs cs bx).length = bx.length + (cs.length - bs.length) ∧ ∀ i, (setBx bs cs bx)[i]? = if i < bx.length then (match posOf bs i with | some j => cs[j]? | none => bx[i]?) else cs[bs.length + (i - bx.length)]?
  | [], cs, bx, _, _, _ => by
    refine ⟨by cases cs <;> simp [setBx], fun i => ?_⟩
    have : setBx [] cs bx = bx ++ cs := by cases cs <;> rfl
    rw [this]
    split
    · rename_i h; rw [List.getElem?_append_left h]; rfl
    · rename_i h; rw [List.getElem?_append_right (by omega)]; simp
  | b :: bs, [], bx, _, _, h => by simp at h
  | b :: bs, c :: cs, bx, hn, hb, hl => by
    have hn' := List.nodup_cons.1 hn
    obtain ⟨h1, h2⟩ := setBx_get bs cs (bx.set b c) hn'.2 (fun x hx => by simpa using hb x (by simp [hx])) (by simpa using hl)
    have hbl := hb b (by simp)
    refine ⟨by simp only [setBx, h1, List.length_set, List.length_cons]; omega, fun i => ?_⟩
    simp only [setBx]
    rw [h2 i]
    simp only [List.length_set, List.length_cons, posOf]
    split
    · rename_i hi
      by_cases hbi : b = i
      · subst hbi
        rw [posOf_mem hn'.1, if_pos rfl]
        simp [hbl]
      · rw [if_neg hbi]
        cases hp : posOf bs i with
        | none => simp [List.getElem?_set_ne hbi]
        | some j => simp
    · rw [show bs.length + 1 + (i - bx.length) = (bs.length + (i - bx.length)) + 1 by omega, List.getElem?_cons_succ]
theorem chunk_spec (sz : Nat) : ∀ (n : Nat) (cs : List PV), n * sz ≤ cs.length → (chunk sz n cs).length = n ∧ (chunk sz n cs).flatten = cs.take (n * sz) ∧ ∀ e ∈ chunk sz n cs, e.length = sz
  | 0, cs, _ => by simp [chunk]
  | n + 1, cs, h => by
    rw [Nat.succ_mul] at h
    obtain ⟨h1, h2, h3⟩ := chunk_spec sz n (cs.drop sz) (by simp; omega)
    refine ⟨by simp [chunk, h1], ?_, fun e he => ?_⟩
    · rw [chunk, List.flatten_cons, h2, Nat.succ_mul, Nat.add_comm (n * sz), List.take_add]
    · rw [chunk] at he
      rcases List.mem_cons.1 he with rfl | he
      · rw [List.length_take]; omega
      · exact h3 e he
/-- what a callee may be led into -/
def domC (w0 w : World) (D : Nat → Nat → Prop) (G : List Nat) (R : List (Option Rec)) (rw_ : List Nat) : Nat → Nat → Prop := inDom w0 w D G R rw_
def domP (w0 w : World) (D Dp : Nat → Nat → Prop) (G : List Nat) (R : List (Option Rec)) (rw_ : List Nat) (Gs : List Nat) : Nat → Nat → Prop := fun b e => inDom w0 w (fun b e => D b e ∨ Dp b e) G R rw_ b e ∨ (b ∈ G ∧ b ∉ Gs)
/-- what the callee is told in -/
abbrev envC (w0 w : World) (D Dp : Nat → Nat → Prop) (G : List Nat) (R : List (Option Rec)) (rw_ : List Nat) (Gs : List Nat) : Env := envB w (domC w0 w D G R rw_) (domP w0 w D Dp G R rw_ Gs) Gs
theorem sh_le_call {rw_ : List Nat} {Gs : List Nat} : (fenv w0 D Dp w G R rw_).sh.Le (envC w0 w D Dp G R rw_ Gs).sh :=
  ⟨fun _ _ h => h, fun _ _ h => h, fun _ _ _ _ _ => rfl, Nat.le_refl _, fun _ _ h => by (cases h), fun _ _ _ _ _ h => h.elim, fun _ _ _ _ h => by (cases h)⟩
/-- a slice over a box, told as a list -/
theorem sbSl_rel (hF : FI nt w0 G0 D Dp G R st a w) {E' : Env} (hle : (fenv w0 D Dp w G R st.rw).sh.Le E'.sh) (hw : E'.w = w) {ow : Own} (how : ow = .none ∨ ow = .lent) {i sz off n : Nat} {cap : Option Nat} {u : Value}
    (hdom : ∀ g e, G[i]? = some g → g < w.heap.size → E'.rdom ow g e)
    (h : Rel (fenv w0 D Dp w G R st.rw) (.sb i sz off n cap) u) : Rel E' (sbSl st.bx ow i sz off n) u := by
  obtain ⟨g, c, rfl, hg, k1, k2, k3, cs, ty, k4, k5⟩ := h.inv_sb
  unfold sbSl
  split
  · rename_i hlen
    have hgl : i < st.bx.length := by
      have := (List.getElem?_eq_some_iff.1 hg).1
      rw [hF.bxn] at this; exact this
    obtain ⟨us, vs, ty2, hh, hR, h1c⟩ := hF.bxs.bx i g _ hg (List.getElem?_eq_getElem hgl)
    have hgd : st.bx.getD i [] = st.bx[i] := by rw [List.getD_eq_getElem?_getD, List.getElem?_eq_getElem hgl]; rfl
    rw [hgd] at hlen ⊢
    obtain ⟨c1, c2, c3⟩ := chunk_spec sz n ((st.bx[i].drop off).map PV.sh1) (by simp; omega)
    have hR2 := (((hR.drop off).sh1).take (n * sz)).mono hle
    rw [← c2] at hR2
    have hul : ((us.drop off).take (n * sz)).length = n * sz := by rw [List.length_take, List.length_drop, hR.1]; omega
    have hsz : g < w.heap.size := (Array.getElem?_eq_some_iff.1 hh).1
    rw [show Value.slice (some ⟨g, off, none⟩) n c = .slice (some ⟨g, off, none⟩) (chunk sz n ((st.bx[i].drop off).map PV.sh1)).length c by rw [c1]]
    refine .sl E' sz _ ow (some ⟨g, off, none⟩) c ((us.drop off).take (n * sz)) c3 hR2.1 hR2.2 (fun x hx => h1c x (List.mem_of_mem_drop (List.mem_of_mem_take hx))) (by rw [c1]; exact k2) k3 (fun h => by cases h)
      (fun ad had => by simp at had; subst had; exact fun _ => ⟨rfl, by rw [hw]; exact hsz⟩) (fun _ => ⟨g, off, rfl, hdom g _ hg hsz, fun j x hx => ?_⟩) (by rcases how with rfl | rfl <;> trivial)
    rw [hw, cell_of_row w g _ _ ty2 (0, 0) hh]
    rw [List.getElem?_take] at hx
    split at hx
    · rw [List.getElem?_drop] at hx; exact app_get hx
    · cases hx
  · exact .bad _ _
section
variable {bs : List Nat}
abbrev lentG (G : List Nat) (bs : List Nat) : List Nat := bs.map fun b => G.getD b 0
theorem lentG_get {bs : List Nat} {G : List Nat} (hb : ∀ b ∈ bs, b < G.length) {j b : Nat} (h : bs[j]? = some b) : ∃ g, (lentG G bs)[j]? = some g ∧ G[b]? = some g := by
  have hbl := hb b (List.mem_of_getElem? h)
  exact ⟨G[b], by rw [List.getElem?_map, h]; simp [List.getD_eq_getElem?_getD, hbl], List.getElem?_eq_getElem hbl⟩
theorem lentG_mem {bs : List Nat} {G : List Nat} (hb : ∀ b ∈ bs, b < G.length) {g : Nat} (h : g ∈ lentG G bs) : ∃ b, b ∈ bs ∧ G[b]? = some g := by
  simp only [List.mem_map] at h
  obtain ⟨b, h1, rfl⟩ := h
  have hbl := hb b h1
  exact ⟨b, h1, by simp [List.getD_eq_getElem?_getD, hbl]⟩
theorem shareC_rel (hF : FI nt w0 G0 D Dp G R st a w) (hb : ∀ b ∈ bs, b < G.length) {p : PV} {u : Value} (h : Rel (fenv w0 D Dp w G R st.rw) p u) :
    Rel (envC w0 w D Dp G R st.rw (lentG G bs)) (mapC bs (shareC st.bx) p) u := by
  have hout : ∀ i g, i ∉ bs → G[i]? = some g → g ∈ G ∧ g ∉ lentG G bs := fun i g hi hg => by
    refine ⟨List.mem_of_getElem? hg, fun hm => ?_⟩
    obtain ⟨b, h1, h2⟩ := lentG_mem hb hm
    exact hi (hF.gn _ _ _ hg h2 ▸ h1)
  cases h with
  | v => exact .v _ _
  | sl _ sz es o A cap us hsz hl hp h1 hn hc hA hA0 hm ho =>
    have hp' : ∀ (j : Nat) p u, es.flatten[j]? = some p → us[j]? = some u → Rel (envC w0 w D Dp G R st.rw (lentG G bs)).sh p u := fun j p u x y => (hp j p u x y).mono sh_le_call
    cases o with
    | none => exact .sl _ _ _ _ _ _ us hsz hl hp' h1 hn hc hA hA0 hm ho
    | full => exact .sl _ _ _ _ _ _ us hsz hl hp' h1 hn hc hA hA0 hm ho
    | id k => exact .sl _ _ _ _ _ _ us hsz hl hp' h1 hn hc hA hA0 hm trivial
    | lent =>
      refine .sl _ _ _ _ _ _ us hsz hl hp' h1 hn hc hA hA0 (fun hne => ?_) trivial
      obtain ⟨b, off, e1, e2, e3⟩ := hm hne
      exact ⟨b, off, e1, .inr (.inl e2), e3⟩
  | fn _ f cs us hl hp =>
    cases cs with
    | nil => simp at hl; subst hl; exact .fn _ f [] [] rfl (fun _ _ _ h => by simp at h)
    | cons c r => exact .bad _ _
  | pt _ cs b o us hl hp h1 hm => exact .pt _ cs b o us hl (fun j p u x y => (hp j p u x y).mono sh_le_call) h1 fun hne => ⟨.inr (.inl (hm hne).1), (hm hne).2⟩
  | pb _ i off g hg =>
    have hgl : i < st.bx.length := by
      have := (List.getElem?_eq_some_iff.1 hg).1
      rw [hF.bxn] at this; exact this
    simp only [mapC]
    cases hp : posOf bs i with
    | some j =>
      obtain ⟨g', h1, h2⟩ := lentG_get hb (posOf_some hp)
      have : G[i]? = some g := hg
      rw [this] at h2; simp at h2; subst h2
      exact .pb _ _ _ _ h1
    | none =>
      obtain ⟨us, vs, ty, hh, hR, h1c⟩ := hF.bxs.bx i g _ hg (List.getElem?_eq_getElem hgl)
      have hgd : st.bx.getD i [] = st.bx[i] := by rw [List.getD_eq_getElem?_getD, List.getElem?_eq_getElem hgl]; rfl
      simp only [shareC, hgd]
      have hR2 := (hR.drop off).sh1.mono (sh_le_call (Gs := lentG G bs))
      refine .pt _ _ _ _ (us.drop off) hR2.1 hR2.2 (fun x hx => h1c x (List.mem_of_mem_drop hx)) fun hne => ⟨.inr (.inr (hout i g (posOf_none hp) hg)), fun j x hx => ?_⟩
      show w.cell? _ = _
      rw [cell_of_row w g _ _ ty (0, 0) hh]
      rw [List.getElem?_drop] at hx
      exact app_get hx
  | sb _ i sz off n cap g c hg hs =>
    simp only [mapC]
    cases hp : posOf bs i with
    | some j =>
      obtain ⟨g', h1, h2⟩ := lentG_get hb (posOf_some hp)
      have : G[i]? = some g := hg
      rw [this] at h2; simp at h2; subst h2
      exact .sb _ _ _ _ _ _ _ _ h1 hs
    | none =>
      simp only [shareC]
      exact sbSl_rel hF sh_le_call rfl (.inr rfl) (fun g' e hg' _ => .inr (.inr (hout i g' (posOf_none hp) hg'))) (.sb _ _ _ _ _ _ _ _ hg hs)
  | agg _ cs us hl hp h1 => exact .bad _ _
  | tup _ cs us hl hp => exact .bad _ _
  | fs => exact .bad _ _
  | fp => exact .bad _ _
  | bad _ u => exact .bad _ _
theorem shareL_rel (hF : FI nt w0 G0 D Dp G R st a w) (hb : ∀ b ∈ bs, b < G.length) {cs : List PV} {us : List Value} (h : RelL (fenv w0 D Dp w G R st.rw) cs us) : RelL (envC w0 w D Dp G R st.rw (lentG G bs)) (cs.map (mapC bs (shareC st.bx))) us := by
  refine ⟨by simp [h.1], fun j p u hp hu => ?_⟩
  rw [List.getElem?_map, Option.map_eq_some_iff] at hp
  obtain ⟨q, hq, rfl⟩ := hp
  exact shareC_rel hF hb (h.2 j q u hq hu)
theorem mapV_rel {E E' : Env} {f : PV → PV} (hf : ∀ p u, Rel E p u → Rel E' (f p) u) {p : PV} {u : Value} (h : Rel E p u) : Rel E' (mapV f p) u := by
  have hL : ∀ {cs : List PV} {us : List Value}, RelL E cs us → RelL E' (cs.map f) us := fun {cs us} h => by
    refine ⟨by simp [h.1], fun j p u hp hu => ?_⟩
    rw [List.getElem?_map, Option.map_eq_some_iff] at hp
    obtain ⟨q, hq, rfl⟩ := hp
    exact hf _ _ (h.2 j q u hq hu)
  cases p with
  | agg cs =>
    obtain ⟨us, rfl, hR, h1⟩ := h.inv_agg
    have := hL hR
    exact .agg _ _ us this.1 this.2 h1
  | fn f cs =>
    obtain ⟨us, rfl, hR⟩ := h.inv_fn
    have := hL hR
    exact .fn _ f _ us this.1 this.2
  | tup cs =>
    obtain ⟨us, rfl, hR⟩ := h.inv_tup
    refine .tup _ _ us (by simp [hR.1]) fun j p u hp hu => ?_
    rw [List.getElem?_map, Option.map_eq_some_iff] at hp
    obtain ⟨q, hq, rfl⟩ := hp
    have h2 := hR.2 j q u hq hu
    split
    · rename_i ds
      obtain ⟨vs, rfl, hR2, h1⟩ := h2.inv_agg
      have := hL hR2
      exact .agg _ _ vs this.1 this.2 h1
    · exact hf _ _ h2
  | v x => exact hf _ _ h
  | sl _ _ _ => exact hf _ _ h
  | pt _ => exact hf _ _ h
  | pb _ _ => exact hf _ _ h
  | sb _ _ _ _ _ => exact hf _ _ h
  | fs _ _ => exact hf _ _ h
  | fp _ _ => exact hf _ _ h
  | bad => exact hf _ _ h
theorem mapS_rel {E E' : Env} {f : PV → PV} (hf : ∀ p u, Rel E p u → Rel E' (f p) u) (hp : ∀ b e, E.pdom b e → E'.pdom b e) (hw : E'.w = E.w) {p : PV} {u : Value} (h : Rel E p u) : Rel E' (mapS f p) u := by
  cases h with
  | fs _ g cs b o us hl hq hb hd hc =>
    refine .fs _ g _ b o us (by simp [hl]) (fun j p u hj hu => ?_) (by rw [hw]; exact hb) (hp _ _ hd) (by rw [hw]; exact hc)
    rw [List.getElem?_map, Option.map_eq_some_iff] at hj
    obtain ⟨q, hq', rfl⟩ := hj
    exact hf _ _ (hq j q u hq' hu)
  | v => exact mapV_rel hf (.v _ _)
  | sl _ sz es o A cap us hsz hl hp h1 hn hc hA hA0 hm ho => exact mapV_rel hf (.sl _ sz es o A cap us hsz hl hp h1 hn hc hA hA0 hm ho)
  | fn _ f cs us hl hp => exact mapV_rel hf (.fn _ f cs us hl hp)
  | pt _ cs b o us hl hp h1 hm => exact mapV_rel hf (.pt _ cs b o us hl hp h1 hm)
  | pb _ i off g h => exact mapV_rel hf (.pb _ i off g h)
  | sb _ i sz off n cap g c h hs => exact mapV_rel hf (.sb _ i sz off n cap g c h hs)
  | agg _ cs us hl hp h1 => exact mapV_rel hf (.agg _ cs us hl hp h1)
  | tup _ cs us hl hp => exact mapV_rel hf (.tup _ cs us hl hp)
  | fp _ g cs b o us hl hq hb hd hc => exact mapV_rel hf (.fp _ g cs b o us hl hq hb hd hc)
  | bad _ u => exact mapV_rel hf (.bad _ u)
end
theorem mapC_nil (f : PV → PV) (p : PV) : mapC [] f p = f p := by cases p <;> rfl
theorem share_eq (bx : List (List PV)) (p : PV) : share bx p = mapS (mapC [] (shareC bx)) p := by
  have h : mapC [] (shareC bx) = shareC bx := funext fun p => mapC_nil _ p
  rw [h]; cases p <;> rfl
theorem domC_ok (hD : DomOk w0 D) : DomOk w (domC w0 w D G R st.rw) := ⟨fun _ _ h => h.1, fun _ _ _ h he => inDom_down hD h he⟩
theorem domP_ok (hD : DomOk w0 D) (hDp : DomOk w0 Dp) (hF : FI nt w0 G0 D Dp G R st a w) (Gs : List Nat) : DomOk w (domP w0 w D Dp G R st.rw Gs) :=
  ⟨fun _ _ h => h.elim (fun h => h.1) (fun h => hF.glt _ h.1),
   fun _ _ _ h he => h.elim (fun h => .inl (inDom_down ⟨fun b e h => h.elim (hD.lt b e) (hDp.lt b e), fun b e e' h he => h.elim (fun h => .inl (hD.down b e e' h he)) (fun h => .inr (hDp.down b e e' h he))⟩ h he)) .inr⟩
theorem dom_out (Gs : List Nat) (hs : ∀ g ∈ Gs, g ∈ G) : ∀ g ∈ Gs, ∀ e, ¬ domC w0 w D G R st.rw g e ∧ ¬ domP w0 w D Dp G R st.rw Gs g e := fun g hg _e =>
  ⟨fun h => h.2.2.1 (hs g hg), fun h => h.elim (fun h => h.2.2.1 (hs g hg)) (fun h => h.2 hg)⟩
theorem run_callFunc {f : FuncId} (h : callOk P f = true) (args : Array Value) : (callFunc f args).run P w = .ok (.enter f args) w := by
  unfold callOk at h
  split at h
  · rename_i fn hf
    simp only [Bool.and_eq_true, bne_iff_ne, ne_eq] at h
    obtain ⟨h1, h2⟩ := h
    obtain ⟨c, hb⟩ := Option.isSome_iff_exists.1 h1
    simp [callFunc, hf, h2, hb]
  · cases h
theorem renC_rel {E E' : Env} {ρ : Nat → Nat} (hsh : E.sh.Le E'.sh) (hp : ∀ b e, E.pdom b e → E'.pdom b e) (hd : ∀ b e, E.dom b e → E'.dom b e) (hw : E'.w = E.w) (hbox : ∀ j g, E.box j = some g → E'.box (ρ j) = some g) (hown : ∀ k s n A c, ¬ E.own k s n A c)
    {p : PV} {u : Value} (h : Rel E p u) : Rel E' (renC ρ p) u := by
  cases h with
  | v => exact .v _ _
  | sl _ sz es o A cap us hsz hl hp0 h1 hn hc hA hA0 hm ho =>
    have hr : ∀ b e, E.rdom o b e → E'.rdom o b e := by cases o <;> first | exact hp | exact hd
    refine .sl _ _ _ _ _ _ us hsz hl (fun j p u x y => (hp0 j p u x y).mono hsh) h1 hn hc hA (fun ad h h0 => ⟨(hA0 ad h h0).1, by rw [hw]; exact (hA0 ad h h0).2⟩) (fun hne => ?_) ?_
    · obtain ⟨b, off, e1, e2, e3⟩ := hm hne
      exact ⟨b, off, e1, hr _ _ e2, fun j u hu => by rw [hw]; exact e3 j u hu⟩
    · cases o with
      | id k => exact absurd ho (hown _ _ _ _ _)
      | _ => exact ho
  | fn _ f cs us hl hp =>
    cases cs with
    | nil => simp at hl; subst hl; exact .fn _ f [] [] rfl (fun _ _ _ h => by simp at h)
    | cons c r => exact .bad _ _
  | pt _ cs b o us hl hp0 h1 hm => exact .pt _ cs b o us hl (fun j p u x y => (hp0 j p u x y).mono hsh) h1 fun hne => ⟨hp _ _ (hm hne).1, fun j u hu => by rw [hw]; exact (hm hne).2 j u hu⟩
  | pb _ i off g hg => exact .pb _ _ _ _ (hbox _ _ hg)
  | sb _ i sz off n cap g c hg hs => exact .sb _ _ _ _ _ _ _ _ (hbox _ _ hg) (by rw [hw]; exact hs)
  | agg _ cs us hl hp h1 => exact .bad _ _
  | tup _ cs us hl hp => exact .bad _ _
  | fs => exact .bad _ _
  | fp => exact .bad _ _
  | bad _ u => exact .bad _ _
theorem ownsRow_same {w w' : World} {B : Nat} {e : TypeId} {sz g n c m : Nat} {xs : List Value} (h : w.ownsRow B e sz (.slice (some ⟨g, 0, none⟩) n c) m xs) (hg : w'.heap[g]? = w.heap[g]?) : w'.ownsRow B e sz (.slice (some ⟨g, 0, none⟩) n c) m xs := by
  refine ⟨h.1, ?_⟩
  rcases h.2 with h | ⟨g', cap, cur, e1, e2, e3, rest⟩
  · exact .inl h
  · refine .inr ⟨g', cap, cur, e1, e2, ?_, rest⟩
    simp only [Value.slice.injEq, Option.some.injEq, Addr.mk.injEq, and_true] at e1
    rw [← e1.1, hg, e1.1]; exact e3
theorem FI.gsz (hF : FI nt w0 G0 D Dp G R st a w) {i g : Nat} (hg : G[i]? = some g) : ∃ cs t, w.heap[g]? = some (.cells cs t (0, 0)) := by
  have hi : i < st.bx.length := by rw [← hF.bxn]; exact (List.getElem?_eq_some_iff.1 hg).1
  obtain ⟨us, vs, t, h, _⟩ := hF.bxs.bx i g _ hg (List.getElem?_eq_getElem hi)
  exact ⟨_, t, h⟩
theorem forgC_rel {E E' : Env} {b : List Nat} (hsh : E.sh.Le E'.sh) (hp : ∀ b e, E.pdom b e → E'.pdom b e) (hd : ∀ b e, E.dom b e → E'.dom b e) (hw : E'.w = E.w) (hbox : ∀ j g, j ∉ b → E.box j = some g → E'.box j = some g) (hown : ∀ k s n A c, E.own k s n A c → E'.own k s n A c)
    {p : PV} {u : Value} (h : Rel E p u) : Rel E' (forgC b p) u := by
  cases h with
  | v => exact .v _ _
  | sl _ sz es o A cap us hsz hl hp0 h1 hn hc hA hA0 hm ho =>
    have hr : ∀ b e, E.rdom o b e → E'.rdom o b e := by cases o <;> first | exact hp | exact hd
    refine .sl _ _ _ _ _ _ us hsz hl (fun j p u x y => (hp0 j p u x y).mono hsh) h1 hn hc hA (fun ad h h0 => ⟨(hA0 ad h h0).1, by rw [hw]; exact (hA0 ad h h0).2⟩) (fun hne => ?_) ?_
    · obtain ⟨b, off, e1, e2, e3⟩ := hm hne
      exact ⟨b, off, e1, hr _ _ e2, fun j u hu => by rw [hw]; exact e3 j u hu⟩
    · cases o with
      | id k => exact hown _ _ _ _ _ ho
      | _ => exact ho
  | fn _ f cs us hl hp =>
    cases cs with
    | nil => simp at hl; subst hl; exact .fn _ f [] [] rfl (fun _ _ _ h => by simp at h)
    | cons c r => exact .bad _ _
  | pt _ cs b o us hl hp0 h1 hm => exact .pt _ cs b o us hl (fun j p u x y => (hp0 j p u x y).mono hsh) h1 fun hne => ⟨hp _ _ (hm hne).1, fun j u hu => by rw [hw]; exact (hm hne).2 j u hu⟩
  | pb _ i off g hg =>
    simp only [forgC]
    split
    · exact .bad _ _
    · rename_i h; exact .pb _ _ _ _ (hbox _ _ h hg)
  | sb _ i sz off n cap g c hg hs =>
    simp only [forgC]
    split
    · exact .bad _ _
    · rename_i h; exact .sb _ _ _ _ _ _ _ _ (hbox _ _ h hg) (by rw [hw]; exact hs)
  | agg _ cs us hl hp h1 => exact .bad _ _
  | tup _ cs us hl hp => exact .bad _ _
  | fs => exact .bad _ _
  | fp => exact .bad _ _
  | bad _ u => exact .bad _ _
theorem oct_map_get {α β : Type} (f : α → β) (z : α) (z' : β) (h : f z = z') (s : Oct α) (i : Ix) : Oct.get z' (Oct.map f s) i = f (Oct.get z s i) := by
  cases s with
  | nil => exact h.symm
  | mk => cases i <;> rfl
theorem forg_get (b : List Nat) (s : Slots) (i : Slot) : (s.forg b).get i = mapV (forgC b) (s.get i) := by
  unfold Slots.forg Slots.get
  have h1 := oct_map_get (Oct.map (Oct.map (mapV (forgC b)))) .nil .nil rfl s i.x
  have h2 := oct_map_get (Oct.map (mapV (forgC b))) .nil .nil rfl (Oct.get .nil s i.x) i.y
  have h3 := oct_map_get (mapV (forgC b)) .bad .bad rfl (Oct.get .nil (Oct.get .nil s i.x) i.y) i.z
  rw [← h3, ← h2, ← h1]
/-- after a call to which boxes were lent -/
theorem call_gen {bs cs : List Nat} (hF : FI nt w0 G0 D Dp G R st a w) (hb : ∀ b ∈ bs, b < st.bx.length) (hnd : bs.Nodup) (hcs : ∀ j ∈ cs, ∃ b, bs[j]? = some b ∧ G0.length ≤ b) {bx1 : List (List PV)} {r : PV} {w' : World} {G1 N : List Nat} {u : Value}
    (hG1l : G1.length = (lentG G bs).length) (hG1 : ∀ (j g : Nat), G1[j]? = some g → (lentG G bs)[j]? = some g ∨ (j ∈ cs ∧ w.heap.size ≤ g)) (hN : ∀ g ∈ N, w.heap.size ≤ g)
    (hbx : BoxesAt (envB w' (sinceB w w' (domC w0 w D G R st.rw) (G1 ++ N)) (fun _ _ => False) (G1 ++ N)) (G1 ++ N) bx1) (hl : bs.length ≤ bx1.length)
    (hr : Rel (envB w' (sinceB w w' (domC w0 w D G R st.rw) (G1 ++ N)) (fun _ _ => False) (G1 ++ N)) r u) (hk : Kept (lentG G bs) w w') :
    FI nt w0 G0 D Dp (setBx bs (G1 ++ N) G) R ⟨forgS (cs.map (bs.getD · 0)) st.s, setBx bs (bx1.map fun cs => cs.map (renC (back bs st.bx.length))) (forgB (cs.map (bs.getD · 0)) st.bx), st.rw⟩ a w' ∧
      Rel (fenv w0 D Dp w' (setBx bs (G1 ++ N) G) R st.rw) (mapV (renC (back bs st.bx.length)) r) u := by
  have hbG : ∀ b ∈ bs, b < G.length := by rw [hF.bxn]; exact hb
  have hlen := hF.bxn
  have hll : G1.length = bs.length := by rw [hG1l]; simp
  have hGs : ∀ g, g ∈ lentG G bs → g ∈ G := fun g hg => by
    obtain ⟨b, _, h⟩ := lentG_mem hbG hg
    exact List.mem_of_getElem? h
  obtain ⟨q1, q2⟩ := setBx_get bs (G1 ++ N) G hnd hbG (by rw [List.length_append]; omega)
  generalize hG' : setBx bs (G1 ++ N) G = G' at *
  -- the boxes that are used up
  generalize his : cs.map (bs.getD · 0) = is at *
  have hmis : ∀ {j b : Nat}, j ∈ cs → bs[j]? = some b → b ∈ is := fun {j b} hj hb => by
    rw [← his]
    exact List.mem_map.2 ⟨j, hj, by simp [List.getD_eq_getElem?_getD, hb]⟩
  have hisb : ∀ b ∈ is, G0.length ≤ b := fun b hb => by
    rw [← his] at hb
    obtain ⟨j, hj, rfl⟩ := List.mem_map.1 hb
    obtain ⟨b', h1, h2⟩ := hcs j hj
    simp [List.getD_eq_getElem?_getD, h1]; exact h2
  -- every block that stands for a box is one that did or a new one
  have hmem : ∀ g ∈ G', g ∈ G ∨ w.heap.size ≤ g := fun g hg => by
    obtain ⟨i, hi⟩ := List.getElem?_of_mem hg
    rw [q2 i] at hi
    have h1 : ∀ j, (G1 ++ N)[j]? = some g → g ∈ G ∨ w.heap.size ≤ g := fun j hj => by
      by_cases hjl : j < G1.length
      · rw [List.getElem?_append_left hjl] at hj
        rcases hG1 j g hj with h | h
        · exact .inl (hGs g (List.mem_of_getElem? h))
        · exact .inr h.2
      · rw [List.getElem?_append_right (by omega)] at hj
        exact .inr (hN g (List.mem_of_getElem? hj))
    split at hi
    · split at hi
      · exact h1 _ hi
      · exact .inl (List.mem_of_getElem? hi)
    · exact h1 _ hi
  have hkeep : ∀ i g, i ∉ is → G[i]? = some g → G'[i]? = some g := fun i g hi hg => by
    have hil := (List.getElem?_eq_some_iff.1 hg).1
    rw [q2 i, if_pos hil]
    split
    · rename_i j hp
      have hjb := posOf_some hp
      have hjl : j < G1.length := by rw [hll]; exact (List.getElem?_eq_some_iff.1 hjb).1
      rw [List.getElem?_append_left hjl]
      obtain ⟨g', h1, h2⟩ := lentG_get hbG hjb
      rw [hg] at h2; simp at h2; subst h2
      rcases hG1 j _ (List.getElem?_eq_getElem hjl) with h | h
      · rw [List.getElem?_eq_getElem hjl, ← h, h1]
      · exact absurd (hmis h.1 hjb) hi
    · exact hg
  have same : ∀ g, g < w.heap.size → g ∉ lentG G bs → w'.heap[g]? = w.heap[g]? := fun g h1 h2 => hk.block g h1 h2
  have szs : ∀ (g : Nat) (cs : Array Value) (t : TypeId), w.heap[g]? = some (.cells cs t (0, 0)) → ∃ cs', w'.heap[g]? = some (.cells cs' t (0, 0)) ∧ cs'.size = cs.size := fun g cs t h => by
    by_cases hg : g ∈ lentG G bs
    · exact hk.bsz g cs t hg h
    · exact ⟨cs, by rw [same g (Array.getElem?_eq_some_iff.1 h).1 hg]; exact h, rfl⟩
  have key : ∀ D b e, inDom w0 w D G R st.rw b e → inDom w0 w' D G' R st.rw b e := fun D b e h => by
    refine ⟨Nat.lt_of_lt_of_le h.1 hk.size, h.2.1, fun hm => ?_, h.2.2.2⟩
    rcases hmem b hm with h1 | h1
    · exact h.2.2.1 h1
    · have := h.1; omega
  have hcell : ∀ b o, b < w.heap.size → b ∉ G → w'.cell? ⟨b, o, none⟩ = w.cell? ⟨b, o, none⟩ := fun b o h1 h2 => by
    have := same b h1 (fun hm => h2 (hGs _ hm))
    simp only [World.cell?, this]
  -- the telling without the boxes that are used up
  let E1 : Env := ⟨w, inDom w0 w D G R st.rw, inDom w0 w (fun b e => D b e ∨ Dp b e) G R st.rw, fun j => if j ∈ is then none else G[j]?, ownIs R st.rw⟩
  have hE1 : ∀ {p : PV} {u : Value}, Rel (fenv w0 D Dp w G R st.rw) p u → Rel E1 (forgC is p) u := fun h =>
    forgC_rel (E := fenv w0 D Dp w G R st.rw) (E' := E1) (Env.Le.refl _) (fun _ _ h => h) (fun _ _ h => h) rfl (fun j g1 hj hg1 => by show (if j ∈ is then none else G[j]?) = _; rw [if_neg hj]; exact hg1) (fun _ _ _ _ _ h => h) h
  have hle : E1.Le (fenv w0 D Dp w' G' R st.rw) := by
    refine ⟨key D, key _, fun b e o h _ => ?_, hk.size, fun j g1 h => ?_, fun _ _ _ _ _ h => h, fun i g cs t h h2 => szs g cs t h2⟩
    · have h1 : b < w.heap.size ∧ b ∉ G := h.elim (fun h => ⟨h.1, h.2.2.1⟩) (fun h => ⟨h.1, h.2.2.1⟩)
      exact hcell b o h1.1 h1.2
    · have h : (if j ∈ is then none else G[j]?) = some g1 := h
      split at h
      · cases h
      · rename_i hj; exact hkeep j g1 hj h
  have hle0 : is = [] → (fenv w0 D Dp w G R st.rw).Le E1 := fun h0 => by
    refine ⟨fun _ _ h => h, fun _ _ h => h, fun _ _ _ _ _ => rfl, Nat.le_refl _, fun j g1 h => ?_, fun _ _ _ _ _ h => h, fun _ g cs t _ h => ⟨cs, h, rfl⟩⟩
    show (if j ∈ is then none else G[j]?) = _
    rw [h0, if_neg (by simp)]; exact h
  have hL1 : ∀ {cs : List PV} {us : List Value}, RelL (fenv w0 D Dp w G R st.rw) cs us → RelL (fenv w0 D Dp w' G' R st.rw) (cs.map (forgC is)) us := fun {cs us} h => by
    refine ⟨by simp [h.1], fun j p u hp hu => ?_⟩
    rw [List.getElem?_map, Option.map_eq_some_iff] at hp
    obtain ⟨q, hq, rfl⟩ := hp
    exact (hE1 (h.2 j q u hq hu)).mono hle
  -- what comes back
  have bkey : ∀ b e, sinceB w w' (domC w0 w D G R st.rw) (G1 ++ N) b e → inDom w0 w' D G' R st.rw b e := by
    rintro b e ⟨h1, h2⟩
    rcases h1 with ⟨_, h⟩ | ⟨h3, h4⟩
    · exact key D b e h
    · refine ⟨h4, fun h => ?_, fun hm => ?_, fun k r n hk2 hn hg => ?_⟩
      · have := hF.hB.size; omega
      · obtain ⟨i, hi⟩ := List.getElem?_of_mem hm
        rw [q2 i] at hi
        split at hi
        · split at hi
          · exact h2 (List.mem_of_getElem? hi)
          · have := hF.glt _ (List.mem_of_getElem? hi); omega
        · exact h2 (List.mem_of_getElem? hi)
      · have := hF.rlt k r n hk2 hn; omega
  have bp : ∀ b e, inDom w0 w' D G' R st.rw b e → inDom w0 w' (fun b e => D b e ∨ Dp b e) G' R st.rw b e := fun b e h => ⟨h.1, fun hb => .inl (h.2.1 hb), h.2.2⟩
  have hren : ∀ {p : PV} {u : Value}, Rel (envB w' (sinceB w w' (domC w0 w D G R st.rw) (G1 ++ N)) (fun _ _ => False) (G1 ++ N)) p u → Rel (fenv w0 D Dp w' G' R st.rw) (renC (back bs st.bx.length) p) u := fun h =>
    renC_rel (E := envB w' (sinceB w w' (domC w0 w D G R st.rw) (G1 ++ N)) (fun _ _ => False) (G1 ++ N)) (E' := fenv w0 D Dp w' G' R st.rw) ⟨bkey, bkey, fun _ _ _ _ _ => rfl, Nat.le_refl _, fun _ _ h => (by cases h), fun _ _ _ _ _ h => h.elim, fun _ _ _ _ h => (by cases h)⟩ (fun b e h => h.elim (fun h => bp b e (bkey b e h)) (fun h => h.elim)) bkey rfl (fun j g hj => by
      show G'[_]? = some g
      have hj : (G1 ++ N)[j]? = some g := hj
      rw [q2]
      unfold back
      split
      · rename_i h1
        have h2 : bs.getD j 0 = bs[j] := by simp [List.getD_eq_getElem?_getD, h1]
        rw [h2, if_pos (hbG _ (List.getElem_mem h1))]
        have h3 : posOf bs bs[j] = some j := by
          cases hp : posOf bs bs[j] with
          | none => exact absurd (List.getElem_mem h1) (posOf_none hp)
          | some j' => rw [nodup_inj hnd (posOf_some hp) (List.getElem?_eq_getElem h1)]
        rw [h3]; exact hj
      · rename_i h1
        rw [← hlen, if_neg (by omega), show bs.length + (G.length + (j - bs.length) - G.length) = j by omega]
        exact hj) (fun _ _ _ _ _ h => h) h
  have hrenL : ∀ {cs : List PV} {us : List Value}, RelL (envB w' (sinceB w w' (domC w0 w D G R st.rw) (G1 ++ N)) (fun _ _ => False) (G1 ++ N)) cs us → RelL (fenv w0 D Dp w' G' R st.rw) (cs.map (renC (back bs st.bx.length))) us := fun {cs us} h => by
    refine ⟨by simp [h.1], fun j p u hp hu => ?_⟩
    rw [List.getElem?_map, Option.map_eq_some_iff] at hp
    obtain ⟨q, hq, rfl⟩ := hp
    exact hren (h.2 j q u hq hu)
  have hfl : (forgB is st.bx).length = st.bx.length := by cases is <;> simp [forgB]
  have hfg : ∀ (i : Nat) (cs : List PV), (forgB is st.bx)[i]? = some cs → ∃ ds, st.bx[i]? = some ds ∧ ∀ us, RelL (fenv w0 D Dp w G R st.rw) ds us → RelL (fenv w0 D Dp w' G' R st.rw) cs us := fun i cs h => by
    cases hi : is with
    | nil => rw [hi] at h; exact ⟨cs, h, fun us hR => (hR.mono (hle0 hi)).mono hle⟩
    | cons x r =>
      rw [hi] at h
      simp only [forgB, List.getElem?_map, Option.map_eq_some_iff] at h
      obtain ⟨ds, hd, rfl⟩ := h
      exact ⟨ds, hd, fun us hR => by rw [← hi]; exact hL1 hR⟩
  have hgl : G0.length ≤ G.length := by
    have := congrArg List.length hF.g0
    rw [List.length_take] at this; omega
  refine ⟨⟨?_, ?_, ?_, hF.defers, hF.size, fun i hi => ?_, ?_, hF.rn, ?_, hF.rinj⟩, mapV_rel (fun p u h => hren h) hr⟩
  · refine ⟨hk.os.trans hF.hB.os, hk.tape.trans hF.hB.tape, hk.output.trans hF.hB.output, Nat.le_trans hF.hB.size hk.size, fun k h1 h2 => ?_, fun g cs t hg hc => ?_⟩
    · rw [same k (Nat.lt_of_lt_of_le h1 hF.hB.size) (fun hm => ?_)]
      · exact hF.hB.block k h1 h2
      · rcases hF.gnew k (hGs k hm) with h | h
        · omega
        · exact h2 h
    · obtain ⟨cs1, h1, h2⟩ := hF.hB.bsz g cs t hg hc
      obtain ⟨cs2, h3, h4⟩ := szs g cs1 t h1
      exact ⟨cs2, h3, h4.trans h2⟩
  · apply List.ext_getElem?
    intro i
    by_cases hi : i < G0.length
    · have h1 : (G.take G0.length)[i]? = some G0[i] := by rw [hF.g0]; exact List.getElem?_eq_getElem hi
      rw [List.getElem?_take, if_pos hi] at h1
      rw [List.getElem?_take, if_pos hi, List.getElem?_eq_getElem hi]
      exact hkeep i _ (fun hm => by have := hisb i hm; omega) h1
    · rw [List.getElem?_take, if_neg hi, List.getElem?_eq_none (by omega)]
  · intro g hg
    rcases hmem g hg with h | h
    · exact hF.gnew g h
    · exact .inl (Nat.le_trans hF.hB.size h)
  · show Rel _ ((forgS is st.s).get (slot i)) _
    cases hi' : is with
    | nil => exact ((hF.slots i hi).mono (hle0 hi')).mono hle
    | cons x r =>
      show Rel _ ((Slots.forg (x :: r) st.s).get (slot i)) _
      rw [forg_get, ← hi']
      exact mapV_rel (fun p u h => (hE1 h).mono hle) (hF.slots i hi)
  · obtain ⟨s1, s2⟩ := setBx_get bs (bx1.map fun cs => cs.map (renC (back bs st.bx.length))) (forgB is st.bx) hnd (by rw [hfl]; exact hb) (by simpa using hl)
    have hNl : N.length = bx1.length - bs.length := by
      have := hbx.len
      rw [List.length_append, hll] at this; omega
    refine ⟨by rw [q1, s1, hfl, hlen, List.length_append, hll, hNl]; simp, ?_, ?_⟩
    · intro i g cs hg hc
      have hc : (setBx bs (bx1.map fun cs => cs.map (renC (back bs st.bx.length))) (forgB is st.bx))[i]? = some cs := hc
      rw [s2 i, hfl] at hc
      rw [q2 i, hlen] at hg
      by_cases hi : i < st.bx.length
      · rw [if_pos hi] at hg hc
        cases hp : posOf bs i with
        | some j =>
          rw [hp] at hc hg
          simp only [List.getElem?_map, Option.map_eq_some_iff] at hc
          obtain ⟨ds, hd, rfl⟩ := hc
          obtain ⟨us, vs, t, k1, k2, k3⟩ := hbx.bx j g ds hg hd
          exact ⟨us, vs, t, k1, hrenL k2, k3⟩
        | none =>
          rw [hp] at hc hg
          obtain ⟨ds, hd, hR⟩ := hfg i cs hc
          obtain ⟨us, vs, t, k1, k2, k3⟩ := hF.bxs.bx i g ds hg hd
          have hgn : g ∉ lentG G bs := fun hm => by
            obtain ⟨b, h1, h2⟩ := lentG_mem hbG hm
            exact posOf_none hp (hF.gn _ _ _ hg h2 ▸ h1)
          exact ⟨us, vs, t, by
            show w'.heap[g]? = _
            rw [same g (Array.getElem?_eq_some_iff.1 k1).1 hgn]; exact k1, hR us k2, k3⟩
      · rw [if_neg hi] at hg hc
        simp only [List.getElem?_map, Option.map_eq_some_iff] at hc
        obtain ⟨ds, hd, rfl⟩ := hc
        obtain ⟨us, vs, t, k1, k2, k3⟩ := hbx.bx _ g ds hg hd
        exact ⟨us, vs, t, k1, hrenL k2, k3⟩
    · intro i j g hi hj
      have cl : ∀ i, G'[i]? = some g → (i < G.length ∧ i ∉ bs ∧ G[i]? = some g) ∨ (∃ k, (G1 ++ N)[k]? = some g ∧ ((i < G.length ∧ bs[k]? = some i) ∨ (¬ i < G.length ∧ k = bs.length + (i - G.length)))) := fun i h => by
        rw [q2 i] at h
        split at h
        · rename_i hil
          split at h
          · rename_i k hp
            exact .inr ⟨k, h, .inl ⟨hil, posOf_some hp⟩⟩
          · rename_i hp
            exact .inl ⟨hil, posOf_none hp, h⟩
        · rename_i hil
          exact .inr ⟨_, h, .inr ⟨hil, rfl⟩⟩
      have cross : ∀ i k, i ∉ bs → G[i]? = some g → (G1 ++ N)[k]? = some g → False := fun i k h1 h2 h3 => by
        have hlt := hF.glt g (List.mem_of_getElem? h2)
        by_cases hkl : k < G1.length
        · rw [List.getElem?_append_left hkl] at h3
          rcases hG1 k g h3 with h | h
          · obtain ⟨b, h4, h5⟩ := lentG_mem hbG (List.mem_of_getElem? h)
            exact h1 (hF.gn _ _ _ h2 h5 ▸ h4)
          · omega
        · rw [List.getElem?_append_right (by omega)] at h3
          have := hN g (List.mem_of_getElem? h3); omega
      rcases cl i hi with ⟨h1, h2, h3⟩ | ⟨k, h1, h2⟩ <;> rcases cl j hj with ⟨h4, h5, h6⟩ | ⟨k', h4, h5⟩
      · exact hF.gn i j g h3 h6
      · exact (cross i k' h2 h3 h4).elim
      · exact (cross j k h5 h6 h1).elim
      · have hkk := hbx.gn _ _ g h1 h4
        subst hkk
        rcases h2 with ⟨h2, h3⟩ | ⟨h2, h3⟩ <;> rcases h5 with ⟨h5, h6⟩ | ⟨h5, h6⟩
        · rw [h3] at h6; simpa using h6
        · have := (List.getElem?_eq_some_iff.1 h3).1; omega
        · have := (List.getElem?_eq_some_iff.1 h6).1; omega
        · omega
  · intro k r n hk2 hn
    obtain ⟨h1, h2, xs, h3⟩ := hF.rws k r n hk2 hn
    have hlt := hF.rlt k r n hk2 hn
    refine ⟨h1, fun hm => ?_, xs, ownsRow_same h3 (same r.g hlt (fun hm => h2 (hGs _ hm)))⟩
    rcases hmem _ hm with h | h
    · exact h2 h
    · omega
/-- a call to which boxes are lent, its function known -/
theorem wp_callB {f : FuncId} {cs : List Value} {xs : List Operand} {ps : List PO} {fo : Operand} {ts : Array TypeId} {t : Nat} {qs : List PV} {bs : List Nat} (hD : DomOk w0 D) (hDp : DomOk w0 Dp)
    (ho : o.op = .call { callee := .value fo, args := List.toArray xs, argTypes := ts }) (hd : o.dst = some t) (ht : t < nt) (ht5 : t < 512)
    (hfo : a.eval fo = .func (.func f) #[] (List.toArray cs)) (hx : cPOs xs = some ps) (hok : callOk P f = true) (hF : FI nt w0 G0 D Dp G R st a w) (hcs : RelL (fenv w0 D Dp w G R st.rw) qs cs)
    (hnd : bs.Nodup) (hb : ∀ b ∈ bs, b < st.bx.length) {us : List Nat} (hus : ∀ j ∈ us, ∃ b, bs[j]? = some b ∧ G0.length ≤ b) {r : PV} {bx1 : List (List PV)} (hl : bs.length ≤ bx1.length)
    (h : PCallsB P f us (bs.map fun b => (st.bx.getD b []).map (mapC bs (shareC st.bx))) (ps.map (fun x => mapS (mapC bs (shareC st.bx)) (st.ev x)) ++ qs.map (mapC bs (shareC st.bx))) r bx1)
    {K : Act → World → Prop} {Q : Exit → Act → World → Prop}
    (hK : ∀ a' w', FInv nt w0 G0 D Dp ⟨(forgS (us.map (bs.getD · 0)) st.s).put (slot t) (mapV (renC (back bs st.bx.length)) r), setBx bs (bx1.map fun cs => cs.map (renC (back bs st.bx.length))) (forgB (us.map (bs.getD · 0)) st.bx), st.rw⟩ a' w' → K a' w') : o.wp P a w K Q := by
  have hbG : ∀ b ∈ bs, b < G.length := by rw [hF.bxn]; exact hb
  have hrun : (execOp a.eval o).run P w = .ok (.enter f (xs.map a.eval ++ cs).toArray) w := by
    simp only [execOp, ho, resolve, hfo, Deferred.ofValue, Sem.run_bind, Sem.run_pure, Result.andThen_ok, invoke, run_callFunc hok]
    simp
  unfold Oper.wp
  rw [hrun, Oper.upon_enter]
  have hR := cPOs_rel hx hF
  have hargs : RelL (envC w0 w D Dp G R st.rw (lentG G bs)) (ps.map (fun x => mapS (mapC bs (shareC st.bx)) (st.ev x)) ++ qs.map (mapC bs (shareC st.bx))) (xs.map a.eval ++ cs) := by
    refine RelL.app ⟨by simpa using hR.1, fun j p u hp hu => ?_⟩ (shareL_rel hF hbG hcs)
    rw [List.getElem?_map, Option.map_eq_some_iff] at hp
    obtain ⟨q, hq, rfl⟩ := hp
    exact mapS_rel (fun p u h => shareC_rel hF hbG h) (fun _ _ h => .inr (.inl h)) rfl (hR.2 j (st.ev q) u (by rw [List.getElem?_map, hq]; rfl) hu)
  have hbx0 : BoxesAt (envC w0 w D Dp G R st.rw (lentG G bs)) (lentG G bs) (bs.map fun b => (st.bx.getD b []).map (mapC bs (shareC st.bx))) := by
    refine ⟨by simp, fun i g cs hg hc => ?_, fun i j g hi hj => ?_⟩
    · rw [List.getElem?_map, Option.map_eq_some_iff] at hc
      obtain ⟨b, hb1, rfl⟩ := hc
      obtain ⟨g', h1, h2⟩ := lentG_get hbG hb1
      rw [hg] at h1; simp at h1; subst h1
      have hbl := hb b (List.mem_of_getElem? hb1)
      obtain ⟨us, vs, t, k1, k2, k3⟩ := hF.bxs.bx b g _ h2 (List.getElem?_eq_getElem hbl)
      have : st.bx.getD b [] = st.bx[b] := by simp [List.getD_eq_getElem?_getD, hbl]
      rw [this]
      exact ⟨us, vs, t, k1, shareL_rel hF hbG k2, k3⟩
    · have hil : i < bs.length := by have := (List.getElem?_eq_some_iff.1 hi).1; simpa using this
      have hjl : j < bs.length := by have := (List.getElem?_eq_some_iff.1 hj).1; simpa using this
      obtain ⟨g1, h1, h2⟩ := lentG_get hbG (List.getElem?_eq_getElem hil)
      obtain ⟨g2, h3, h4⟩ := lentG_get hbG (List.getElem?_eq_getElem hjl)
      rw [hi] at h1; rw [hj] at h3
      simp at h1 h3; subst h1; subst h3
      have := hF.gn _ _ _ h2 h4
      exact nodup_inj hnd (List.getElem?_eq_getElem hil) (by rw [this]; exact List.getElem?_eq_getElem hjl)
  have hGs : ∀ g ∈ lentG G bs, g ∈ G := fun g hg => by
    obtain ⟨b, _, h⟩ := lentG_mem hbG hg
    exact List.mem_of_getElem? h
  refine (h w _ _ (lentG G bs) _ (domC_ok hD) (domP_ok hD hDp hF _) (dom_out _ hGs) hbx0 hargs).mono ?_
  rintro e w' ⟨u, G1, N, rfl, hGl, hG1, hN, hbx, hr, hk⟩
  rw [hd]
  obtain ⟨h1, h2⟩ := call_gen hF hb hnd hus hGl hG1 hN hbx hl hr hk
  exact hK _ _ ⟨_, R, h1.put ht ht5 h2⟩
/-- a call, its function known -/
theorem wp_call {f : FuncId} {cs : List Value} {xs : List Operand} {ps : List PO} {fo : Operand} {ts : Array TypeId} {t : Nat} {qs : List PV} (hD : DomOk w0 D) (hDp : DomOk w0 Dp)
    (ho : o.op = .call { callee := .value fo, args := List.toArray xs, argTypes := ts }) (hd : o.dst = some t) (ht : t < nt) (ht5 : t < 512)
    (hfo : a.eval fo = .func (.func f) #[] (List.toArray cs)) (hx : cPOs xs = some ps) (hok : callOk P f = true) (hF : FI nt w0 G0 D Dp G R st a w) (hcs : RelL (fenv w0 D Dp w G R st.rw) qs cs)
    (h : PCalls P f (ps.map (fun x => share st.bx (st.ev x)) ++ qs.map (shareC st.bx)) v) {K : Act → World → Prop} {Q : Exit → Act → World → Prop}
    (hK : ∀ a' w', FInv nt w0 G0 D Dp (st.put (slot t) v) a' w' → K a' w') : o.wp P a w K Q := by
  have hrun : (execOp a.eval o).run P w = .ok (.enter f (xs.map a.eval ++ cs).toArray) w := by
    simp only [execOp, ho, resolve, hfo, Deferred.ofValue, Sem.run_bind, Sem.run_pure, Result.andThen_ok, invoke, run_callFunc hok]
    simp
  unfold Oper.wp
  rw [hrun, Oper.upon_enter]
  have hR := cPOs_rel hx hF
  have hmc : mapC [] (shareC st.bx) = shareC st.bx := funext fun p => mapC_nil _ p
  have hargs : RelL (envC w0 w D Dp G R st.rw []) (ps.map (fun x => share st.bx (st.ev x)) ++ qs.map (shareC st.bx)) (xs.map a.eval ++ cs) := by
    have h1 := shareL_rel (bs := []) hF (by simp) hcs
    rw [hmc] at h1
    refine RelL.app ⟨by simpa using hR.1, fun j p u hp hu => ?_⟩ h1
    rw [List.getElem?_map, Option.map_eq_some_iff] at hp
    obtain ⟨q, hq, rfl⟩ := hp
    rw [share_eq]
    exact mapS_rel (fun p u h => shareC_rel (bs := []) hF (by simp) h) (fun _ _ h => .inr (.inl h)) rfl (hR.2 j (st.ev q) u (by rw [List.getElem?_map, hq]; rfl) hu)
  refine (h w _ _ [] _ (domC_ok hD) (domP_ok hD hDp hF []) (by simp) ⟨rfl, fun i g cs h => by simp at h, fun i j g h => by simp at h⟩ hargs).mono ?_
  rintro e w' ⟨u, G1, N, rfl, hGl, hG1, hN, hbx, hr, hk⟩
  obtain rfl : G1 = [] := List.eq_nil_of_length_eq_zero (by simpa using hGl)
  obtain rfl : N = [] := by
    have := hbx.len
    simpa using this
  have hb := hk.below
  rw [hd]
  refine hK _ _ ⟨G, R, hF.quiet hb ht ht5 (hr.mono ?_)⟩
  have key : ∀ b e, sinceB w w' (domC w0 w D G R st.rw) ([] ++ []) b e → inDom w0 w' D G R st.rw b e := by
    rintro b e ⟨⟨_, h⟩ | ⟨h1, h2⟩, _⟩
    · exact ⟨Nat.lt_of_lt_of_le h.1 hb.size, h.2⟩
    · refine ⟨h2, fun h => ?_, fun h => ?_, fun k r n hk hn hg => ?_⟩
      · have := hF.hB.size; omega
      · have := hF.glt _ h; omega
      · have := hF.rlt k r n hk hn; omega
  exact ⟨key, fun b e h => h.elim (fun h => let ⟨a1, a2, a3, a4⟩ := key b e h; ⟨a1, fun hb => .inl (a2 hb), a3, a4⟩) (fun h => h.elim), fun _ _ _ _ _ => rfl, Nat.le_refl _, fun i g h => by simp [envB] at h, fun _ _ _ _ _ h => h.elim, fun i g _ _ h => by simp [envB] at h⟩

/-! ### boxes -/
theorem box_le {w1 : World} {o' : Obj} {rw_ : List Nat} (h1 : w1.heap = w.heap.push o') : (fenv w0 D Dp w G R rw_).Le (fenv w0 D Dp w1 (G ++ [w.heap.size]) R rw_) := by
  have hs : w1.heap.size = w.heap.size + 1 := by simp [h1]
  have hk : ∀ k, k < w.heap.size → w1.heap[k]? = w.heap[k]? := fun k hk => by rw [h1, Array.getElem?_push, if_neg (by omega)]
  have key : ∀ D b e, inDom w0 w D G R rw_ b e → inDom w0 w1 D (G ++ [w.heap.size]) R rw_ b e := fun D b e h => by
    refine ⟨by rw [hs]; have := h.1; omega, h.2.1, fun hm => ?_, h.2.2.2⟩
    rcases List.mem_append.1 hm with h1 | h1
    · exact h.2.2.1 h1
    · simp at h1; have := h.1; omega
  refine ⟨fun b e h => key D b e h, fun b e h => key (fun b e => D b e ∨ Dp b e) b e h, fun b e o h _ => ?_, by show w.heap.size ≤ w1.heap.size; omega, fun i g h => ?_, fun _ _ _ _ _ h => h, fun i g cs t _ h => ⟨cs, ?_, rfl⟩⟩
  · have : b < w.heap.size := by rcases h with h | h <;> exact h.1
    show w1.cell? _ = w.cell? _
    simp only [World.cell?, hk b this]
  · show (G ++ [w.heap.size])[i]? = some g
    rw [List.getElem?_append_left (List.getElem?_eq_some_iff.1 h).1]; exact h
  · show w1.heap[g]? = _
    rw [hk g (Array.getElem?_eq_some_iff.1 h).1]; exact h
/-- a new box; its block may be longer than what is told of it -/
theorem FI.newBoxAt (hF : FI nt w0 G0 D Dp G R st a w) {w1 : World} {cs : List PV} {us vs : List Value} {e : TypeId} (hw : w1.heap = w.heap.push (.cells (us ++ vs).toArray e (0, 0))) (hb : Below w.heap.size w w1)
    (hR : RelL (fenv w0 D Dp w G R st.rw) cs us) (h1c : ∀ x ∈ us, x.oneCell' = true) :
    FI nt w0 G0 D Dp (G ++ [w.heap.size]) R ⟨st.s, st.bx ++ [cs], st.rw⟩ a w1 ∧ (fenv w0 D Dp w G R st.rw).Le (fenv w0 D Dp w1 (G ++ [w.heap.size]) R st.rw) := by
  have hle := box_le (w0 := w0) (D := D) (Dp := Dp) (G := G) (R := R) (rw_ := st.rw) hw
  have hnew : w1.heap[w.heap.size]? = some (.cells (us ++ vs).toArray e (0, 0)) := by rw [hw]; simp
  refine ⟨⟨hF.hB.grow hb, ?_, ?_, hF.defers, hF.size, fun i hi => (hF.slots i hi).mono hle, ⟨by simp [hF.bxn], ?_, ?_⟩, hF.rn, ?_, hF.rinj⟩, hle⟩
  · have hgl : G0.length ≤ G.length := by
      have := congrArg List.length hF.g0
      rw [List.length_take] at this; omega
    rw [List.take_append_of_le_length hgl]; exact hF.g0
  · intro g hg
    rcases List.mem_append.1 hg with h | h
    · exact hF.gnew g h
    · simp at h; subst h; exact .inl hF.hB.size
  · intro i g ds hg hc
    have hc : (st.bx ++ [cs])[i]? = some ds := hc
    by_cases hi : i < G.length
    · rw [List.getElem?_append_left hi] at hg
      rw [List.getElem?_append_left (by rw [← hF.bxn]; exact hi)] at hc
      obtain ⟨us', vs', t, h2, h3, h4⟩ := hF.bxs.bx i g ds hg hc
      exact ⟨us', vs', t, cells_below hb h2, h3.mono hle, h4⟩
    · have hi' : i = G.length := by
        have := (List.getElem?_eq_some_iff.1 hg).1
        simp at this; omega
      subst hi'
      simp at hg
      rw [hF.bxn] at hc
      simp at hc
      subst hg hc
      exact ⟨us, vs, e, hnew, hR.mono hle, h1c⟩
  · intro i j g hi hj
    have hlt : ∀ i, i < G.length → (G ++ [w.heap.size])[i]? = some g → G[i]? = some g ∧ g < w.heap.size := fun i hi h => by
      rw [List.getElem?_append_left hi] at h
      exact ⟨h, hF.glt g (List.mem_of_getElem? h)⟩
    have heq : ∀ i, ¬ i < G.length → (G ++ [w.heap.size])[i]? = some g → i = G.length ∧ g = w.heap.size := fun i hi h => by
      have := (List.getElem?_eq_some_iff.1 h).1
      simp at this
      obtain rfl : i = G.length := by omega
      simp at h
      exact ⟨rfl, h.symm⟩
    by_cases h1 : i < G.length <;> by_cases h2 : j < G.length
    · exact hF.gn i j g (hlt i h1 hi).1 (hlt j h2 hj).1
    · have := (hlt i h1 hi).2; have := (heq j h2 hj).2; omega
    · have := (hlt j h2 hj).2; have := (heq i h1 hi).2; omega
    · rw [(heq i h1 hi).1, (heq j h2 hj).1]
  · intro k r n hk hn
    obtain ⟨h1, h2, xs, h3⟩ := hF.rws k r n hk hn
    refine ⟨h1, fun hm => ?_, xs, ownsRow_below h3 hb (Nat.le_refl _)⟩
    rcases List.mem_append.1 hm with h4 | h4
    · exact h2 h4
    · have := hF.rlt k r n hk hn; simp at h4; omega
theorem FI.newBox (hF : FI nt w0 G0 D Dp G R st a w) {cs : List PV} {us : List Value} (hR : RelL (fenv w0 D Dp w G R st.rw) cs us) (h1c : ∀ x ∈ us, x.oneCell' = true) (e : TypeId) {d : Nat} (hd : d < nt) (hd5 : d < 512) :
    FI nt w0 G0 D Dp (G ++ [w.heap.size]) R ⟨st.s.put (slot d) (.pb st.bx.length 0), st.bx ++ [cs], st.rw⟩ (a.put (some d) (.pointer (some ⟨w.heap.size, 0, none⟩))) (w.alloc (.cells us.toArray e)) := by
  have := (hF.newBoxAt (w1 := w.alloc (.cells us.toArray e)) (vs := []) (e := e) (by rw [List.append_nil]; rfl) (below_al w _) hR h1c).1
  exact this.put hd hd5 (.pb _ _ _ _ (by show (G ++ [w.heap.size])[st.bx.length]? = _; rw [← hF.bxn]; simp))
theorem wp_new {t : TypeId} {i : TypeInfo} {z : Value} {zs : List PV} {d : Nat} (ho : o.op = .alloc t) (hd : o.dst = some d) (hdn : d < nt) (hd5 : d < 512) (hi : P.info? t = some i) (hz : i.zero = some z) (hz1 : z.cells.toList.all (·.oneCell') = true) (hzs : zs = z.cells.toList.map cvc) (hF : FI nt w0 G0 D Dp G R st a w)
    {K : Act → World → Prop} {Q : Exit → Act → World → Prop} (hK : ∀ a' w', FInv nt w0 G0 D Dp ⟨st.s.put (slot d) (.pb st.bx.length 0), st.bx ++ [zs], st.rw⟩ a' w' → K a' w') : o.wp P a w K Q := by
  subst hzs
  have hrun : (execOp a.eval o).run P w = .ok (.value (.pointer (some ⟨w.heap.size, 0, none⟩))) (w.alloc (.cells z.cells t)) := by
    simp [execOp, ho, Instr.alloc, zeroValue, typeInfo, hi, hz, newVar, newRow]
  unfold Oper.wp
  rw [hrun, Oper.upon_value, hd]
  have := hF.newBox (rel_map_cvc _ z.cells.toList) (fun x hx => (List.all_eq_true.1 hz1) x hx) t hdn hd5
  rw [Array.toArray_toList] at this
  exact hK _ _ ⟨_, _, this⟩
theorem wp_box {t : TypeId} {x : Operand} {p : PO} {d : Nat} (ho : o.op = .box t x) (hd : o.dst = some d) (hdn : d < nt) (hd5 : d < 512) (hx : cPO x = some p) (hF : FI nt w0 G0 D Dp G R st a w) (hc : (st.ev p).cellsOk = true)
    {K : Act → World → Prop} {Q : Exit → Act → World → Prop} (hK : ∀ a' w', FInv nt w0 G0 D Dp ⟨st.s.put (slot d) (.pb st.bx.length 0), st.bx ++ [(st.ev p).cells], st.rw⟩ a' w' → K a' w') : o.wp P a w K Q := by
  have hrun : (execOp a.eval o).run P w = .ok (.value (.pointer (some ⟨w.heap.size, 0, none⟩))) (w.alloc (.cells (a.eval x).cells t)) := by
    simp [execOp, ho, Instr.box, newVar, newRow]
  unfold Oper.wp
  rw [hrun, Oper.upon_value, hd]
  obtain ⟨hR, h1⟩ := (cPO_rel hx hF).inv_cells hc
  have := hF.newBox hR h1 t hdn hd5
  rw [Array.toArray_toList] at this
  exact hK _ _ ⟨_, _, this⟩
theorem setAtV_app {us vs : List Value} {off : Nat} {new : List Value} (h : off + new.length ≤ us.length) : setAtV (us ++ vs) off new = setAtV us off new ++ vs := by
  simp only [setAtV, List.append_assoc]
  rw [List.take_append_of_le_length (by omega), List.drop_append_of_le_length h]
theorem FI.setBox (hF : FI nt w0 G0 D Dp G R st a w) {b g off : Nat} {old new : List PV} {us vs ex : List Value} {t : TypeId} (hg : G[b]? = some g) (hc : st.bx[b]? = some old) (hh : w.heap[g]? = some (.cells (us ++ ex).toArray t (0, 0)))
    (hR : RelL (fenv w0 D Dp w G R st.rw) old us) (h1 : ∀ x ∈ us, x.oneCell' = true) (hV : RelL (fenv w0 D Dp w G R st.rw) new vs) (h2 : ∀ x ∈ vs, x.oneCell' = true) (hoff : off + new.length ≤ old.length) :
    FI nt w0 G0 D Dp G R ⟨st.s, st.bx.set b (setAt old off new), st.rw⟩ a (w.setRow g (setAtV (us ++ ex) off vs).toArray) ∧ (fenv w0 D Dp w G R st.rw).Le (fenv w0 D Dp (w.setRow g (setAtV (us ++ ex) off vs).toArray) G R st.rw) := by
  have hgm : g ∈ G := List.mem_of_getElem? hg
  have hoff' : off + vs.length ≤ us.length := by rw [hV.1, hR.1]; exact hoff
  have hlen : (setAtV (us ++ ex) off vs).toArray.size = (us ++ ex).toArray.size := by
    simp only [List.size_toArray]; exact setAtV_length (by rw [List.length_append]; omega)
  have hnew := setRow_heap w g _ (setAtV (us ++ ex) off vs).toArray t _ hh
  have hsz : ∀ (g' : Nat) (cs : Array Value) (t' : TypeId), w.heap[g']? = some (.cells cs t' (0, 0)) → ∃ cs', (w.setRow g (setAtV (us ++ ex) off vs).toArray).heap[g']? = some (.cells cs' t' (0, 0)) ∧ cs'.size = cs.size := fun g' cs t' h => by
    by_cases hgg : g' = g
    · subst hgg
      rw [hh] at h
      simp at h
      obtain ⟨rfl, rfl⟩ := h
      exact ⟨_, hnew, by simpa using hlen⟩
    · exact ⟨cs, by rw [setRow_other w g g' _ hgg]; exact h, rfl⟩
  have hle : (fenv w0 D Dp w G R st.rw).Le (fenv w0 D Dp (w.setRow g (setAtV (us ++ ex) off vs).toArray) G R st.rw) :=
    ⟨fun b e h => ⟨by rw [setRow_size]; exact h.1, h.2⟩, fun b e h => ⟨by rw [setRow_size]; exact h.1, h.2⟩, fun b e o h _ => cell_setRow_other w g _ ⟨b, o, none⟩ (by
      intro e'
      have : b = g := e'
      subst this
      rcases h with h | h <;> exact h.2.2.1 hgm), by show w.heap.size ≤ (w.setRow _ _).heap.size; rw [setRow_size]; exact Nat.le_refl _, fun _ _ h => h, fun _ _ _ _ _ h => h, fun i g' cs t' _ h => hsz g' cs t' h⟩
  have hbel : Kept G0 w0 (w.setRow g (setAtV (us ++ ex) off vs).toArray) := by
    refine ⟨hF.hB.os, hF.hB.tape, hF.hB.output, by rw [setRow_size]; exact hF.hB.size, fun k hk hkG => ?_, fun g' cs t' hg' h => ?_⟩
    · rw [setRow_other w g k _ (fun e => ?_)]
      · exact hF.hB.block k hk hkG
      · subst e
        rcases hF.gnew _ hgm with h | h
        · omega
        · exact hkG h
    · obtain ⟨cs1, k1, k2⟩ := hF.hB.bsz g' cs t' hg' h
      obtain ⟨cs2, k3, k4⟩ := hsz g' cs1 t' k1
      exact ⟨cs2, k3, k4.trans k2⟩
  refine ⟨⟨hbel, hF.g0, hF.gnew, hF.defers, hF.size, fun i hi => (hF.slots i hi).mono hle, ⟨by simp [hF.bxn], ?_, hF.gn⟩, hF.rn, ?_, hF.rinj⟩, hle⟩
  · intro i g' ds hg' hc'
    have hc' : (st.bx.set b (setAt old off new))[i]? = some ds := hc'
    by_cases hib : i = b
    · subst hib
      rw [hg] at hg'
      simp at hg'; subst hg'
      have hil := (List.getElem?_eq_some_iff.1 hc).1
      rw [List.getElem?_set_self hil] at hc'
      simp at hc'; subst hc'
      exact ⟨setAtV us off vs, ex, t, by rw [← setAtV_app hoff']; exact hnew, (hR.setAt hV off).mono hle, fun x hx => (mem_setAtV hx).elim (h1 x) (h2 x)⟩
    · rw [List.getElem?_set_ne (fun e => hib e.symm)] at hc'
      obtain ⟨us', vs', t', k2, k3, k4⟩ := hF.bxs.bx i g' ds hg' hc'
      refine ⟨us', vs', t', ?_, k3.mono hle, k4⟩
      show (w.setRow _ _).heap[g']? = _
      rw [setRow_other w g g' _ ?_]
      · exact k2
      · rintro rfl
        exact hib (hF.gn _ _ _ hg' hg)
  · intro k r n hk hn
    obtain ⟨k1, k2, xs, k3⟩ := hF.rws k r n hk hn
    exact ⟨k1, k2, xs, ownsRow_same k3 (setRow_other w g r.g _ (fun e => k2 (e ▸ hgm)))⟩
theorem wp_st {t : TypeId} {i : TypeInfo} {x y : Operand} {p q : PO} (ho : o.op = .store t x y) (hd : o.dst = none) (hx : cPO x = some p) (hy : cPO y = some q) (hi : P.info? t = some i) (hF : FI nt w0 G0 D Dp G R st a w)
    {b off : Nat} {old : List PV} (h1 : st.ev p = .pb b off) (h2 : st.bx[b]? = some old) (h3 : (st.ev q).cellsOk = true) (h4 : (st.ev q).cells.length = i.size) (h5 : off + i.size ≤ old.length)
    {K : Act → World → Prop} {Q : Exit → Act → World → Prop} (hK : ∀ a' w', FInv nt w0 G0 D Dp ⟨st.s, st.bx.set b (setAt old off (st.ev q).cells), st.rw⟩ a' w' → K a' w') : o.wp P a w K Q := by
  have r1 := cPO_rel hx hF
  rw [h1] at r1
  obtain ⟨g, e, hg⟩ := r1.inv_pb
  obtain ⟨hV, hV1⟩ := (cPO_rel hy hF).inv_cells h3
  obtain ⟨us, ex, ty, hh, hR, h1c⟩ := hF.bxs.bx b g old hg h2
  have hvl : (a.eval y).cells.size = i.size := by have := hV.1; rw [Array.length_toList] at this; omega
  have hst := run_storeCells_at (P := P) g off ty (a.eval y).cells.toList 0 (us ++ ex).toArray w hh (by have := hR.1; simp; omega) hV1
  rw [Nat.add_zero] at hst
  have hrun : (execOp a.eval o).run P w = .ok .skip (w.setRow g (setAtV (us ++ ex) off (a.eval y).cells.toList).toArray) := by
    simp only [execOp, ho, e, Instr.storeAt, Instr.sureAddr, storeVar, Sem.run_bind, Sem.run_pure, Result.andThen_ok, sizeOf, typeInfo, run_program, hi]
    rw [if_neg (by simp [hvl])]
    rw [hst]
    rfl
  unfold Oper.wp
  rw [hrun, Oper.upon_skip, hd]
  exact hK _ _ ⟨G, R, (hF.setBox hg h2 hh hR h1c hV hV1 (by omega)).1⟩
end
end Go.Proofs.Ytdkancgcefklfaa
