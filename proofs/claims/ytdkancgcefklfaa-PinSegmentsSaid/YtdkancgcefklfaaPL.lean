/-
  Boxes told in another order, or no more: the same frame.
-/
import Derived.Test.YtdkancgcefklfaaPJ
namespace Go.Proofs.Ytdkancgcefklfaa
open Go.RowKit

/-- the boxes ks alone are told of, in this order -/
def permC (ks : List Nat) : PV → PV
  | .pb b off => match posOf ks b with
    | some j => .pb j off
    | none => .bad
  | .sb b sz off n c => match posOf ks b with
    | some j => .sb j sz off n c
    | none => .bad
  | .fn f [] => .fn f []
  | .fn _ _ => .bad
  | .fs _ _ => .bad
  | .fp _ _ => .bad
  | .agg _ => .bad
  | .tup _ => .bad
  | p => p
theorem permC_rel {E E' : Env} {ks : List Nat} (hsh : E.sh.Le E'.sh) (hp : ∀ b e, E.pdom b e → E'.pdom b e) (hd : ∀ b e, E.dom b e → E'.dom b e) (hw : E'.w = E.w) (hbox : ∀ i j g, ks[j]? = some i → E.box i = some g → E'.box j = some g) (hown : ∀ k s n A c, E.own k s n A c → E'.own k s n A c)
    {p : PV} {u : Value} (h : Rel E p u) : Rel E' (permC ks p) u := by
  cases h with
  | v => exact .v _ _
  | sl _ sz es o A cap us hsz hl hp0 h1 hn hc hA hA0 hm ho =>
    have hr : ∀ b e, E.rdom o b e → E'.rdom o b e := by cases o <;> first | exact hp | exact hd
    refine .sl _ _ _ _ _ _ us hsz hl (fun j p u x y => (hp0 j p u x y).mono hsh) h1 hn hc hA (fun ad h h0 => ⟨(hA0 ad h h0).1, by rw [hw]; exact (hA0 ad h h0).2⟩) (fun hne => ?_) ?_
    · obtain ⟨b, off, e1, e2, e3⟩ := hm hne
      exact ⟨b, off, e1, hr _ _ e2, fun j u hu => by rw [hw]; exact e3 j u hu⟩
    · cases o with
      | id k => exact hown _ _ _ _ _ ho
      | _ => exact ho
  | fn _ f cs us hl hp =>
    cases cs with
    | nil => simp at hl; subst hl; exact .fn _ f [] [] rfl (fun _ _ _ h => by simp at h)
    | cons c r => exact .bad _ _
  | pt _ cs b o us hl hp0 h1 hm => exact .pt _ cs b o us hl (fun j p u x y => (hp0 j p u x y).mono hsh) h1 fun hne => ⟨hp _ _ (hm hne).1, fun j u hu => by rw [hw]; exact (hm hne).2 j u hu⟩
  | pb _ i off g hg =>
    simp only [permC]
    cases hq : posOf ks i with
    | none => exact .bad _ _
    | some j => exact .pb _ _ _ _ (hbox _ _ _ (posOf_some hq) hg)
  | sb _ i sz off n cap g c hg hs =>
    simp only [permC]
    cases hq : posOf ks i with
    | none => exact .bad _ _
    | some j => exact .sb _ _ _ _ _ _ _ _ (hbox _ _ _ (posOf_some hq) hg) (by rw [hw]; exact hs)
  | agg _ cs us hl hp h1 => exact .bad _ _
  | tup _ cs us hl hp => exact .bad _ _
  | fs => exact .bad _ _
  | fp => exact .bad _ _
  | bad _ u => exact .bad _ _
def Slots.perm (ks : List Nat) (s : Slots) : Slots := Oct.map (Oct.map (Oct.map (mapV (permC ks)))) s
theorem perm_get (ks : List Nat) (s : Slots) (i : Slot) : (s.perm ks).get i = mapV (permC ks) (s.get i) := by
  unfold Slots.perm Slots.get
  have h1 := oct_map_get (Oct.map (Oct.map (mapV (permC ks)))) .nil .nil rfl s i.x
  have h2 := oct_map_get (Oct.map (mapV (permC ks))) .nil .nil rfl (Oct.get .nil s i.x) i.y
  have h3 := oct_map_get (mapV (permC ks)) .bad .bad rfl (Oct.get .nil (Oct.get .nil s i.x) i.y) i.z
  rw [← h3, ← h2, ← h1]
theorem wk_perm {n0 : Nat} {st : St} (ks : List Nat) (hnd : ks.Nodup) (hlt : ∀ b ∈ ks, b < st.bx.length) (h0 : ∀ j, j < n0 → ks[j]? = some j) :
    WkN n0 st ⟨st.s.perm ks, ks.map fun b => (st.bx.getD b []).map (permC ks), st.rw⟩ := by
  rintro nt w0 G0 D Dp a w hG0 ⟨G, R, hF⟩
  have hGl : ∀ b ∈ ks, b < G.length := fun b hb => by rw [hF.bxn]; exact hlt b hb
  have hmem : ∀ g, g ∈ ks.map (G.getD · 0) → g ∈ G := fun g hg => by
    obtain ⟨b, hb, rfl⟩ := List.mem_map.1 hg
    have := hGl b hb
    simp [List.getD_eq_getElem?_getD, this]
  have hget : ∀ (i j g : Nat), ks[j]? = some i → G[i]? = some g → (ks.map (G.getD · 0))[j]? = some g := fun i j g h1 h2 => by
    rw [List.getElem?_map, h1]
    simp [List.getD_eq_getElem?_getD, h2]
  have hinv : ∀ (j g : Nat), (ks.map (G.getD · 0))[j]? = some g → ∃ i, ks[j]? = some i ∧ G[i]? = some g := fun j g h => by
    rw [List.getElem?_map, Option.map_eq_some_iff] at h
    obtain ⟨i, h1, rfl⟩ := h
    have := hGl i (List.mem_of_getElem? h1)
    exact ⟨i, h1, by simp [List.getD_eq_getElem?_getD, this]⟩
  have hd : ∀ D b e, inDom w0 w D G R st.rw b e → inDom w0 w D (ks.map (G.getD · 0)) R st.rw b e := fun D b e h => ⟨h.1, h.2.1, fun hm => h.2.2.1 (hmem _ hm), h.2.2.2⟩
  have hrel : ∀ p u, Rel (fenv w0 D Dp w G R st.rw) p u → Rel (fenv w0 D Dp w (ks.map (G.getD · 0)) R st.rw) (permC ks p) u := fun p u h =>
    permC_rel (E := fenv w0 D Dp w G R st.rw) (E' := fenv w0 D Dp w (ks.map (G.getD · 0)) R st.rw)
      ⟨hd D, hd D, fun _ _ _ _ _ => rfl, Nat.le_refl _, fun _ _ h => (by cases h), fun _ _ _ _ _ h => h.elim, fun _ _ _ _ h => (by cases h)⟩ (hd _) (hd _) rfl hget (fun _ _ _ _ _ h => h) h
  refine ⟨ks.map (G.getD · 0), R, hF.hB, ?_, fun g hg => hF.gnew g (hmem g hg), hF.defers, hF.size, fun i hi => ?_, ⟨by simp, fun j g cs hj hc => ?_, fun i j g hi hj => ?_⟩, hF.rn, fun k r n h1 h2 => ?_, hF.rinj⟩
  · apply List.ext_getElem?
    intro j
    rw [List.getElem?_take]
    split
    · rename_i hj
      have h1 : (G.take G0.length)[j]? = G0[j]? := by rw [hF.g0]
      rw [List.getElem?_take, if_pos hj] at h1
      obtain ⟨g, hg⟩ : ∃ g, G0[j]? = some g := ⟨_, List.getElem?_eq_getElem hj⟩
      rw [hg] at h1 ⊢
      exact hget j j g (h0 j (by omega)) h1
    · rename_i hj
      rw [List.getElem?_eq_none (by omega)]
  · show Rel _ ((st.s.perm ks).get (slot i)) _
    rw [perm_get]
    exact mapV_rel hrel (hF.slots i hi)
  · obtain ⟨b, h1, h2⟩ := hinv j g hj
    have hbl := hlt b (List.mem_of_getElem? h1)
    rw [List.getElem?_map, h1] at hc
    simp only [Option.map_some, Option.some.injEq] at hc
    subst hc
    have hbx : st.bx[b]? = some (st.bx.getD b []) := by simp [List.getD_eq_getElem?_getD, hbl]
    obtain ⟨us, vs, t, h3, h4, h5⟩ := hF.bxs.bx b g _ h2 hbx
    refine ⟨us, vs, t, h3, ⟨by simp [h4.1], fun j p u hp hu => ?_⟩, h5⟩
    rw [List.getElem?_map, Option.map_eq_some_iff] at hp
    obtain ⟨q, hq, rfl⟩ := hp
    exact hrel _ _ (h4.2 j q u hq hu)
  · obtain ⟨b, h1, h2⟩ := hinv i g hi
    obtain ⟨b', h3, h4⟩ := hinv j g hj
    obtain rfl := hF.gn _ _ _ h2 h4
    exact nodup_inj hnd h1 h3
  · obtain ⟨h3, h4, xs, h5⟩ := hF.rws k r n h1 h2
    exact ⟨h3, fun hm => h4 (hmem _ hm), xs, h5⟩
section
variable {P : Program} {n0 : Nat} {Q : St → Prop} {k : List KI} {st : St}
theorem go_perm {x : PC} (ks : List Nat) (hnd : ks.Nodup) (hlt : ∀ b ∈ ks, b < st.bx.length) (h0 : ∀ j, j < n0 → ks[j]? = some j) (h : go P n0 Q (.c x :: k) ⟨st.s.perm ks, ks.map fun b => (st.bx.getD b []).map (permC ks), st.rw⟩) : go P n0 Q (.c x :: k) st :=
  go_wk (wk_perm ks hnd hlt h0) h
end
@[simp] theorem perm_eq (ks : List Nat) (s : Slots) : Slots.perm ks s = Oct.map (Oct.map (Oct.map (mapV (permC ks)))) s := rfl
attribute [simp] permC
@[simp] theorem fl_permC {α : Type} {c : α → List PV} [CSh c] (ks : List Nat) (l : List α) : (fl c l).map (permC ks) = fl c l := fl_map (fun p h => by rcases plain_iff h with ⟨x, rfl⟩ | ⟨s, es, rfl⟩ <;> rfl) l
end Go.Proofs.Ytdkancgcefklfaa
