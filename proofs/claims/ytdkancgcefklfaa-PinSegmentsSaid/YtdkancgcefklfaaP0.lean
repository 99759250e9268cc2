/-
  A plain view of a frame: what each slot holds, told without addresses; what it means of a world; and that it lasts.
-/
import Derived.Test.YtdkancgcefklfaaLib5
import Derived.OrdersHeld
import Derived.Deep.RegionHeld3
namespace Go.Proofs.Ytdkancgcefklfaa
open Go.RowKit

/-- how a slice may be appended to: not at all; its capacity is its length; it is row k of the frame's own; it is lent (and is not handed back) -/
inductive Own where
  | none
  | full
  | id (k : Nat)
  | lent
/-- what a slot holds, told without addresses -/
inductive PV where
  | v (x : Value)
  | sl (sz : Nat) (es : List (List PV)) (o : Own)
  | fn (f : FuncId) (cs : List PV)
  | pt (cs : List PV)
  | pb (b off : Nat)
  | sb (b sz off n : Nat) (cap : Option Nat)
  | agg (cs : List PV)
  | tup (cs : List PV)
  | fs (f : FuncId) (cs : List PV)
  | fp (f : FuncId) (cs : List PV)
  | bad
abbrev PV.int (k : IntKind) (n : Int) : PV := .v (.int k n)
abbrev PV.i (n : Int) : PV := .v (.int .i64 n)
abbrev PV.bool (b : Bool) : PV := .v (.bool b)
abbrev PV.str (l : List UInt8) : PV := .v (.string ⟨l.toArray⟩)

/-- what a telling is measured by: the world, the blocks that slices and pointers may lead into, the frame's own boxes and rows -/
structure Env where
  w : World
  dom : Nat → Nat → Prop
  pdom : Nat → Nat → Prop
  box : Nat → Option Nat
  own : Nat → Nat → Nat → Option Addr → Nat → Prop
def ownOk (E : Env) (sz n : Nat) (A : Option Addr) (cap : Nat) : Own → Prop
  | .none => True
  | .full => cap = n
  | .id k => E.own k sz n A cap
  | .lent => True
/-- where a slice may lead -/
def Env.rdom (E : Env) : Own → Nat → Nat → Prop
  | .lent => E.pdom
  | _ => E.dom
/-- a slice over a box: its block, its capacity -/
def sbOk (w : World) (g sz off n c : Nat) (cap : Option Nat) : Prop :=
  (∀ k, cap = some k → c = k) ∧ n ≤ c ∧ c ≤ maxLen ∧ ∃ cs t, w.heap[g]? = some (.cells cs t (0, 0)) ∧ off + c * sz ≤ cs.size

/-- what is told of a slice's elements, and behind a pointer: without the frame's own -/
def Env.sh (E : Env) : Env := ⟨E.w, E.dom, E.dom, fun _ => none, fun _ _ _ _ _ => False⟩
inductive Rel : Env → PV → Value → Prop
  | v (E : Env) (x : Value) : Rel E (.v x) x
  | sl (E : Env) (sz : Nat) (es : List (List PV)) (o : Own) (A : Option Addr) (cap : Nat) (us : List Value) (hsz : ∀ e ∈ es, e.length = sz) (hl : us.length = es.flatten.length)
      (hp : ∀ (j : Nat) p u, es.flatten[j]? = some p → us[j]? = some u → Rel E.sh p u) (h1 : ∀ u ∈ us, u.oneCell' = true) (hn : es.length ≤ cap) (hc : cap ≤ maxLen) (hA : A = none → cap = 0)
      (hA0 : ∀ a, A = some a → cap ≠ 0 → a.spot = none ∧ a.block < E.w.heap.size)
      (hm : us ≠ [] → ∃ b off, A = some ⟨b, off, none⟩ ∧ E.rdom o b (off + us.length) ∧ ∀ (j : Nat) u, us[j]? = some u → E.w.cell? ⟨b, off + j, none⟩ = some u)
      (ho : ownOk E sz es.length A cap o) : Rel E (.sl sz es o) (.slice A es.length cap)
  | fn (E : Env) (f : FuncId) (cs : List PV) (us : List Value) (hl : us.length = cs.length) (hp : ∀ (j : Nat) p u, cs[j]? = some p → us[j]? = some u → Rel E p u) : Rel E (.fn f cs) (.func (.func f) #[] us.toArray)
  | pt (E : Env) (cs : List PV) (b o : Nat) (us : List Value) (hl : us.length = cs.length)
      (hp : ∀ (j : Nat) p u, cs[j]? = some p → us[j]? = some u → Rel E.sh p u) (h1 : ∀ u ∈ us, u.oneCell' = true)
      (hm : us ≠ [] → E.pdom b (o + us.length) ∧ ∀ (j : Nat) u, us[j]? = some u → E.w.cell? ⟨b, o + j, none⟩ = some u) : Rel E (.pt cs) (.pointer (some ⟨b, o, none⟩))
  | pb (E : Env) (i off g : Nat) (h : E.box i = some g) : Rel E (.pb i off) (.pointer (some ⟨g, off, none⟩))
  | sb (E : Env) (i sz off n : Nat) (cap : Option Nat) (g c : Nat) (h : E.box i = some g) (hs : sbOk E.w g sz off n c cap) : Rel E (.sb i sz off n cap) (.slice (some ⟨g, off, none⟩) n c)
  | agg (E : Env) (cs : List PV) (us : List Value) (hl : us.length = cs.length) (hp : ∀ (j : Nat) p u, cs[j]? = some p → us[j]? = some u → Rel E p u) (h1 : ∀ u ∈ us, u.oneCell' = true) : Rel E (.agg cs) (.agg us.toArray)
  | tup (E : Env) (cs : List PV) (us : List Value) (hl : us.length = cs.length) (hp : ∀ (j : Nat) p u, cs[j]? = some p → us[j]? = some u → Rel E p u) : Rel E (.tup cs) (.tuple us.toArray)
  | fs (E : Env) (f : FuncId) (cs : List PV) (b o : Nat) (us : List Value) (hl : us.length = cs.length) (hp : ∀ (j : Nat) p u, cs[j]? = some p → us[j]? = some u → Rel E p u)
      (hb : b < E.w.heap.size) (hd : E.pdom b (o + 1)) (hc : E.w.cell? ⟨b, o, none⟩ = some (.func (.func f) #[] us.toArray)) : Rel E (.fs f cs) (.slice (some ⟨b, o, none⟩) 1 1)
  | fp (E : Env) (f : FuncId) (cs : List PV) (b o : Nat) (us : List Value) (hl : us.length = cs.length) (hp : ∀ (j : Nat) p u, cs[j]? = some p → us[j]? = some u → Rel E p u)
      (hb : b < E.w.heap.size) (hd : E.pdom b (o + 1)) (hc : E.w.cell? ⟨b, o, none⟩ = some (.func (.func f) #[] us.toArray)) : Rel E (.fp f cs) (.pointer (some ⟨b, o, none⟩))
  | bad (E : Env) (u : Value) : Rel E .bad u

/-- lists, place by place -/
def RelL (E : Env) (cs : List PV) (us : List Value) : Prop := us.length = cs.length ∧ ∀ (j : Nat) p u, cs[j]? = some p → us[j]? = some u → Rel E p u
theorem RelL.nil (E : Env) : RelL E [] [] := ⟨rfl, fun _ _ _ h => by simp at h⟩
theorem RelL.cons {E : Env} {p : PV} {u : Value} {cs : List PV} {us : List Value} (h : Rel E p u) (hs : RelL E cs us) : RelL E (p :: cs) (u :: us) := by
  refine ⟨by simp [hs.1], fun j q w hq hw => ?_⟩
  cases j with
  | zero => simp at hq hw; subst hq hw; exact h
  | succ j => simp at hq hw; exact hs.2 j q w hq hw
theorem RelL.get {E : Env} {cs : List PV} {us : List Value} (h : RelL E cs us) {j : Nat} {p : PV} (hp : cs[j]? = some p) : ∃ u, us[j]? = some u ∧ Rel E p u := by
  have hj : j < us.length := by rw [h.1]; exact (List.getElem?_eq_some_iff.1 hp).1
  exact ⟨us[j], List.getElem?_eq_getElem hj, h.2 j p _ hp (List.getElem?_eq_getElem hj)⟩
theorem RelL.app {E : Env} {cs ds : List PV} {us vs : List Value} (h : RelL E cs us) (k : RelL E ds vs) : RelL E (cs ++ ds) (us ++ vs) := by
  refine ⟨by simp [h.1, k.1], fun j p u hp hu => ?_⟩
  by_cases hj : j < us.length
  · rw [List.getElem?_append_left (by rw [← h.1]; exact hj)] at hp
    rw [List.getElem?_append_left hj] at hu
    exact h.2 j p u hp hu
  · rw [List.getElem?_append_right (by rw [← h.1]; omega)] at hp
    rw [List.getElem?_append_right (by omega), h.1] at hu
    exact k.2 _ p u hp hu
theorem RelL.drop {E : Env} {cs : List PV} {us : List Value} (h : RelL E cs us) (k : Nat) : RelL E (cs.drop k) (us.drop k) := by
  refine ⟨by simp [h.1], fun j p u hp hu => ?_⟩
  rw [List.getElem?_drop] at hp hu
  exact h.2 _ p u hp hu
theorem RelL.take {E : Env} {cs : List PV} {us : List Value} (h : RelL E cs us) (k : Nat) : RelL E (cs.take k) (us.take k) := by
  refine ⟨by simp [h.1], fun j p u hp hu => ?_⟩
  rw [List.getElem?_take] at hp hu
  split at hp
  · rename_i hlt; rw [if_pos hlt] at hu; exact h.2 _ p u hp hu
  · cases hp

/-- what lasts from one telling to another -/
structure Env.Le (E E' : Env) : Prop where
  dom : ∀ b e, E.dom b e → E'.dom b e
  pdom : ∀ b e, E.pdom b e → E'.pdom b e
  cell : ∀ b e o, (E.dom b e ∨ E.pdom b e) → o < e → E'.w.cell? ⟨b, o, none⟩ = E.w.cell? ⟨b, o, none⟩
  size : E.w.heap.size ≤ E'.w.heap.size
  box : ∀ i g, E.box i = some g → E'.box i = some g
  own : ∀ k s n A c, E.own k s n A c → E'.own k s n A c
  bsz : ∀ i g cs t, E.box i = some g → E.w.heap[g]? = some (.cells cs t (0, 0)) → ∃ cs', E'.w.heap[g]? = some (.cells cs' t (0, 0)) ∧ cs'.size = cs.size
theorem Env.Le.refl (E : Env) : E.Le E := ⟨fun _ _ h => h, fun _ _ h => h, fun _ _ _ _ _ => rfl, Nat.le_refl _, fun _ _ h => h, fun _ _ _ _ _ h => h, fun _ _ _ _ _ h => ⟨_, h, rfl⟩⟩
theorem Env.Le.rdom {E E' : Env} (h : E.Le E') (o : Own) : ∀ b e, E.rdom o b e → E'.rdom o b e := by
  cases o with
  | lent => exact h.pdom
  | _ => exact h.dom
theorem Env.rdom_or {E : Env} {o : Own} {b e : Nat} (h : E.rdom o b e) : E.dom b e ∨ E.pdom b e := by
  cases o with
  | lent => exact .inr h
  | _ => exact .inl h
theorem Env.Le.sh {E E' : Env} (h : E.Le E') : E.sh.Le E'.sh := ⟨h.dom, h.dom, fun b e o hd ho => h.cell b e o (.inl (hd.elim id id)) ho, h.size, fun _ _ h => by (cases h), fun _ _ _ _ _ h => h.elim, fun _ _ _ _ h => by (cases h)⟩
theorem Env.sh_le {E : Env} (h : ∀ b e, E.dom b e → E.pdom b e) : E.sh.Le E := ⟨fun _ _ h => h, h, fun _ _ _ _ _ => rfl, Nat.le_refl _, fun _ _ h => by (cases h), fun _ _ _ _ _ h => h.elim, fun _ _ _ _ h => by (cases h)⟩
theorem Env.sh_sh (E : Env) : E.sh.sh = E.sh := rfl
theorem Rel.mono {E E' : Env} (hE : E.Le E') {p : PV} {u : Value} (h : Rel E p u) : Rel E' p u := by
  induction h generalizing E' with
  | v E x => exact .v E' x
  | sl E sz es o A cap us hsz hl hp h1 hn hc hA hA0 hm ho ih =>
    refine .sl E' sz es o A cap us hsz hl (fun j p u a b => ih j p u a b hE.sh) h1 hn hc hA (fun a ha h0 => ⟨(hA0 a ha h0).1, Nat.lt_of_lt_of_le (hA0 a ha h0).2 hE.size⟩) ?_ ?_
    · intro hne
      obtain ⟨b, off, e, hd, hcell⟩ := hm hne
      refine ⟨b, off, e, hE.rdom o _ _ hd, fun j u hu => ?_⟩
      rw [hE.cell b _ (off + j) (Env.rdom_or hd) (by have := (List.getElem?_eq_some_iff.1 hu).1; omega)]
      exact hcell j u hu
    · cases o with
      | none => trivial
      | full => exact ho
      | id k => exact hE.own _ _ _ _ _ ho
      | lent => trivial
  | fn E f cs us hl hp ih => exact .fn E' f cs us hl (fun j p u a b => ih j p u a b hE)
  | pt E cs b o us hl hp h1 hm ih =>
    refine .pt E' cs b o us hl (fun j p u a b => ih j p u a b hE.sh) h1 fun hne => ?_
    obtain ⟨hd, hcell⟩ := hm hne
    refine ⟨hE.pdom _ _ hd, fun j u hu => ?_⟩
    rw [hE.cell b _ (o + j) (.inr hd) (by have := (List.getElem?_eq_some_iff.1 hu).1; omega)]
    exact hcell j u hu
  | pb E i off g h => exact .pb E' i off g (hE.box _ _ h)
  | sb E i sz off n cap g c h hs =>
    obtain ⟨h1, h2, h3, cs, t, h4, h5⟩ := hs
    obtain ⟨cs', h6, h7⟩ := hE.bsz i g cs t h h4
    exact .sb E' i sz off n cap g c (hE.box _ _ h) ⟨h1, h2, h3, cs', t, h6, by rw [h7]; exact h5⟩
  | agg E cs us hl hp h1 ih => exact .agg E' cs us hl (fun j p u a b => ih j p u a b hE) h1
  | tup E cs us hl hp ih => exact .tup E' cs us hl (fun j p u a b => ih j p u a b hE)
  | fs E f cs b o us hl hp hb hd hc ih => exact .fs E' f cs b o us hl (fun j p u x y => ih j p u x y hE) (Nat.lt_of_lt_of_le hb hE.size) (hE.pdom _ _ hd) (by rw [hE.cell b _ o (.inr hd) (by omega)]; exact hc)
  | fp E f cs b o us hl hp hb hd hc ih => exact .fp E' f cs b o us hl (fun j p u x y => ih j p u x y hE) (Nat.lt_of_lt_of_le hb hE.size) (hE.pdom _ _ hd) (by rw [hE.cell b _ o (.inr hd) (by omega)]; exact hc)
  | bad E u => exact .bad E' u
theorem RelL.mono {E E' : Env} (hE : E.Le E') {cs : List PV} {us : List Value} (h : RelL E cs us) : RelL E' cs us := ⟨h.1, fun j p u hp hu => (h.2 j p u hp hu).mono hE⟩

/-- the telling of what came in: the slices lead into D, the pointers into D or Dp; the boxes that came in -/
def envB (w : World) (D Dp : Nat → Nat → Prop) (G : List Nat) : Env := ⟨w, D, fun b e => D b e ∨ Dp b e, fun i => G[i]?, fun _ _ _ _ _ => False⟩
def envS (w : World) (D Dp : Nat → Nat → Prop) : Env := ⟨w, D, fun b e => D b e ∨ Dp b e, fun _ => none, fun _ _ _ _ _ => False⟩
theorem envB_nil (w : World) (D Dp : Nat → Nat → Prop) : envB w D Dp [] = envS w D Dp := rfl
/-- blocks that came in, or were laid since -/
def since (w w' : World) (D : Nat → Nat → Prop) : Nat → Nat → Prop := fun b e => (b < w.heap.size ∧ D b e) ∨ (w.heap.size ≤ b ∧ b < w'.heap.size)
/-- the same, but for the boxes -/
def sinceB (w w' : World) (D : Nat → Nat → Prop) (G : List Nat) : Nat → Nat → Prop := fun b e => since w w' D b e ∧ b ∉ G
structure DomOk (w : World) (D : Nat → Nat → Prop) : Prop where
  lt : ∀ b e, D b e → b < w.heap.size
  down : ∀ b e e', D b e → e' ≤ e → D b e'
/-- the world grows; nothing of it has turned but the boxes that were lent -/
structure Kept (G : List Nat) (w w' : World) : Prop where
  os : w'.os = w.os
  tape : w'.tape = w.tape
  output : w'.output = w.output
  size : w.heap.size ≤ w'.heap.size
  block : ∀ k, k < w.heap.size → k ∉ G → w'.heap[k]? = w.heap[k]?
  bsz : ∀ g cs t, g ∈ G → w.heap[g]? = some (.cells cs t (0, 0)) → ∃ cs', w'.heap[g]? = some (.cells cs' t (0, 0)) ∧ cs'.size = cs.size
theorem Kept.refl (G : List Nat) (w : World) : Kept G w w := ⟨rfl, rfl, rfl, Nat.le_refl _, fun _ _ _ => rfl, fun _ _ _ _ h => ⟨_, h, rfl⟩⟩
theorem Kept.of_below {G : List Nat} {w w' : World} (h : Below w.heap.size w w') (hG : ∀ g ∈ G, g < w.heap.size) : Kept G w w' :=
  ⟨h.os, h.tape, h.output, h.size, fun k hk _ => h.block k hk, fun g cs t hg hc => ⟨cs, by rw [h.block g (hG g hg)]; exact hc, rfl⟩⟩
theorem Kept.below {w w' : World} (h : Kept [] w w') : Below w.heap.size w w' := ⟨h.os, h.tape, h.output, h.size, fun k hk => h.block k hk (by simp)⟩
/-- the boxes and what they hold; a box may be told of in part, from its start on -/
structure BoxesAt (E : Env) (G : List Nat) (bx : List (List PV)) : Prop where
  len : G.length = bx.length
  bx : ∀ (i g : Nat) cs, G[i]? = some g → bx[i]? = some cs → ∃ us vs t, E.w.heap[g]? = some (.cells (List.toArray (us ++ vs)) t (0, 0)) ∧ RelL E cs us ∧ ∀ u ∈ us, u.oneCell' = true
  gn : ∀ (i j g : Nat), G[i]? = some g → G[j]? = some g → i = j

/-- f, called with what is told so, boxes lent to it, returns what is told so; nothing else that was there has turned; the boxes at cs are used up: new blocks may stand in their place -/
def PCallsB (P : Program) (f : FuncId) (cs : List Nat) (bx : List (List PV)) (args : List PV) (r : PV) (bx' : List (List PV)) : Prop :=
  ∀ (w : World) (D Dp : Nat → Nat → Prop) (G : List Nat) (vs : List Value), DomOk w D → DomOk w Dp → (∀ g ∈ G, ∀ e, ¬ D g e ∧ ¬ Dp g e) → BoxesAt (envB w D Dp G) G bx → RelL (envB w D Dp G) args vs →
    Calls P f vs.toArray w fun e w' => ∃ u G1 N, e = .returned u ∧ G1.length = G.length ∧ (∀ (j g : Nat), G1[j]? = some g → G[j]? = some g ∨ (j ∈ cs ∧ w.heap.size ≤ g)) ∧ (∀ g ∈ N, w.heap.size ≤ g) ∧
      BoxesAt (envB w' (sinceB w w' D (G1 ++ N)) (fun _ _ => False) (G1 ++ N)) (G1 ++ N) bx' ∧ Rel (envB w' (sinceB w w' D (G1 ++ N)) (fun _ _ => False) (G1 ++ N)) r u ∧ Kept G w w'
/-- f, called with what is told so, returns what is told so; nothing that was there has turned -/
def PCalls (P : Program) (f : FuncId) (args : List PV) (r : PV) : Prop := PCallsB P f [] [] args r []

end Go.Proofs.Ytdkancgcefklfaa
