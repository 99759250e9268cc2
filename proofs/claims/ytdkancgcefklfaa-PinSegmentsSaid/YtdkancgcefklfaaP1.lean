/-
  A frame's slots as a tree, its boxes and rows, and what they mean of an activation and a world.
-/
import Derived.Test.YtdkancgcefklfaaP0
namespace Go.Proofs.Ytdkancgcefklfaa
open Go.RowKit

inductive Ix where
  | a | b | c | d | e | f | g | h
  deriving DecidableEq
structure Slot where
  x : Ix
  y : Ix
  z : Ix
  deriving DecidableEq
/-- eight places -/
inductive Oct (α : Type) where
  | nil
  | mk (a b c d e f g h : α)
def Oct.get {α : Type} (z : α) : Oct α → Ix → α
  | .nil, _ => z
  | .mk a _ _ _ _ _ _ _, .a => a
  | .mk _ b _ _ _ _ _ _, .b => b
  | .mk _ _ c _ _ _ _ _, .c => c
  | .mk _ _ _ d _ _ _ _, .d => d
  | .mk _ _ _ _ e _ _ _, .e => e
  | .mk _ _ _ _ _ f _ _, .f => f
  | .mk _ _ _ _ _ _ g _, .g => g
  | .mk _ _ _ _ _ _ _ h, .h => h
def Oct.put {α : Type} (z : α) (v : α) : Oct α → Ix → Oct α
  | .nil, .a => .mk v z z z z z z z
  | .nil, .b => .mk z v z z z z z z
  | .nil, .c => .mk z z v z z z z z
  | .nil, .d => .mk z z z v z z z z
  | .nil, .e => .mk z z z z v z z z
  | .nil, .f => .mk z z z z z v z z
  | .nil, .g => .mk z z z z z z v z
  | .nil, .h => .mk z z z z z z z v
  | .mk _ b c d e f g h, .a => .mk v b c d e f g h
  | .mk a _ c d e f g h, .b => .mk a v c d e f g h
  | .mk a b _ d e f g h, .c => .mk a b v d e f g h
  | .mk a b c _ e f g h, .d => .mk a b c v e f g h
  | .mk a b c d _ f g h, .e => .mk a b c d v f g h
  | .mk a b c d e _ g h, .f => .mk a b c d e v g h
  | .mk a b c d e f _ h, .g => .mk a b c d e f v h
  | .mk a b c d e f g _, .h => .mk a b c d e f g v
theorem Oct.get_put {α : Type} (z v : α) (s : Oct α) (i j : Ix) : (s.put z v i).get z j = if j = i then v else s.get z j := by
  cases s <;> cases i <;> cases j <;> rfl
abbrev Slots := Oct (Oct (Oct PV))
def Slots.get (s : Slots) (i : Slot) : PV := Oct.get .bad (Oct.get .nil (Oct.get .nil s i.x) i.y) i.z
def Slots.put (s : Slots) (i : Slot) (v : PV) : Slots := Oct.put .nil (Oct.put .nil (Oct.put .bad v (Oct.get .nil (Oct.get .nil s i.x) i.y) i.z) (Oct.get .nil s i.x) i.y) s i.x
theorem Slots.get_put (s : Slots) (i j : Slot) (v : PV) : (s.put i v).get j = if j = i then v else s.get j := by
  obtain ⟨x, y, z⟩ := i
  obtain ⟨x', y', z'⟩ := j
  simp only [Slots.get, Slots.put, Oct.get_put, Slot.mk.injEq]
  by_cases hx : x' = x
  · subst hx
    simp only [if_true, true_and, Oct.get_put]
    by_cases hy : y' = y
    · subst hy; simp only [if_true, true_and, Oct.get_put]
    · simp [hy]
  · simp [hx]
def ix : Nat → Ix
  | 0 => .a
  | 1 => .b
  | 2 => .c
  | 3 => .d
  | 4 => .e
  | 5 => .f
  | 6 => .g
  | _ => .h
theorem ix_inj' : ∀ i : Nat, i < 8 → ∀ j : Nat, j < 8 → ix i = ix j → i = j := by decide
theorem ix_inj (i j : Nat) (hi : i < 8) (hj : j < 8) (h : ix i = ix j) : i = j := ix_inj' i hi j hj h
def slot (n : Nat) : Slot := ⟨ix (n / 64), ix (n / 8 % 8), ix (n % 8)⟩
theorem slot_inj {i j : Nat} (hi : i < 512) (hj : j < 512) (h : slot i = slot j) : i = j := by
  simp only [slot, Slot.mk.injEq] at h
  obtain ⟨h1, h2, h3⟩ := h
  have := ix_inj _ _ (by omega) (by omega) h1
  have := ix_inj _ _ (by omega) (by omega) h2
  have := ix_inj _ _ (by omega) (by omega) h3
  omega

/-- what a frame holds: its slots, the contents of its boxes, how far its rows are filled -/
structure St where
  s : Slots
  bx : List (List PV)
  rw : List Nat
def St.put (st : St) (d : Slot) (v : PV) : St := ⟨st.s.put d v, st.bx, st.rw⟩
/-- an operand -/
inductive PO where
  | s (i : Slot)
  | k (v : PV)
def St.ev (st : St) : PO → PV
  | .s i => st.s.get i
  | .k v => v

/-- a row of the frame's own that lies in a block -/
structure Rec where
  g : Nat
  e : TypeId
  sz : Nat
  cap : Nat

section
variable (nt : Nat) (w0 : World) (G0 : List Nat) (D Dp : Nat → Nat → Prop)

def inDom (w0 w : World) (D : Nat → Nat → Prop) (G : List Nat) (R : List (Option Rec)) (rw : List Nat) (b e : Nat) : Prop :=
  b < w.heap.size ∧ (b < w0.heap.size → D b e) ∧ b ∉ G ∧ ∀ (k : Nat) r n, R[k]? = some (some r) → rw[k]? = some n → r.g = b → e ≤ n * r.sz
def ownIs (R : List (Option Rec)) (rw : List Nat) (k sz n : Nat) (A : Option Addr) (c : Nat) : Prop :=
  ∃ m r, rw[k]? = some m ∧ R[k]? = some r ∧ n ≤ m ∧ (n = m → match r with
    | none => c = n
    | some r => A = some ⟨r.g, 0, none⟩ ∧ c = r.cap ∧ r.sz = sz)
def fenv (w : World) (G : List Nat) (R : List (Option Rec)) (rw : List Nat) : Env :=
  ⟨w, inDom w0 w D G R rw, inDom w0 w (fun b e => D b e ∨ Dp b e) G R rw, fun i => G[i]?, ownIs R rw⟩

structure FI (G : List Nat) (R : List (Option Rec)) (st : St) (a : Act) (w : World) : Prop where
  hB : Kept G0 w0 w
  g0 : G.take G0.length = G0
  gnew : ∀ g ∈ G, w0.heap.size ≤ g ∨ g ∈ G0
  defers : a.defers = []
  size : a.tmps.size = nt
  slots : ∀ i, i < 512 → Rel (fenv w0 D Dp w G R st.rw) (st.s.get (slot i)) (a.tmps.getD i undef)
  bxs : BoxesAt (fenv w0 D Dp w G R st.rw) G st.bx
  rn : R.length = st.rw.length
  rws : ∀ (k : Nat) r n, R[k]? = some (some r) → st.rw[k]? = some n → w0.heap.size ≤ r.g ∧ r.g ∉ G ∧ ∃ xs, w.ownsRow w0.heap.size r.e r.sz (.slice (some ⟨r.g, 0, none⟩) n r.cap) n xs
  rinj : ∀ (k k' : Nat) r r', R[k]? = some (some r) → R[k']? = some (some r') → r.g = r'.g → k = k'
end
def FInv (nt : Nat) (w0 : World) (G0 : List Nat) (D Dp : Nat → Nat → Prop) (st : St) (a : Act) (w : World) : Prop := ∃ G R, FI nt w0 G0 D Dp G R st a w

section
variable {nt : Nat} {w0 : World} {G0 : List Nat} {D Dp : Nat → Nat → Prop} {G : List Nat} {R : List (Option Rec)} {st : St} {a : Act} {w w' : World}

theorem FI.bxn (h : FI nt w0 G0 D Dp G R st a w) : G.length = st.bx.length := h.bxs.len
theorem FI.gn (h : FI nt w0 G0 D Dp G R st a w) : ∀ (i j g : Nat), G[i]? = some g → G[j]? = some g → i = j := h.bxs.gn
theorem FI.g0m (h : FI nt w0 G0 D Dp G R st a w) {g : Nat} (hg : g ∈ G0) : g ∈ G := by
  have := h.g0
  exact List.mem_of_mem_take (this.symm ▸ hg)
theorem cells_below {w w' : World} (hb : Below w.heap.size w w') {g : Nat} {cs : Array Value} {t : TypeId} (h : w.heap[g]? = some (.cells cs t (0, 0))) : w'.heap[g]? = some (.cells cs t (0, 0)) := by
  rw [hb.block g (Array.getElem?_eq_some_iff.1 h).1]; exact h
theorem fenv_le {rw : List Nat} (hb : Below w.heap.size w w') : (fenv w0 D Dp w G R rw).Le (fenv w0 D Dp w' G R rw) :=
  ⟨fun b e h => ⟨Nat.lt_of_lt_of_le h.1 hb.size, h.2⟩, fun b e h => ⟨Nat.lt_of_lt_of_le h.1 hb.size, h.2⟩,
   fun b e o h _ => hb.cell (p := ⟨b, o, none⟩) (by rcases h with h | h <;> exact h.1), hb.size, fun _ _ h => h, fun _ _ _ _ _ h => h, fun _ g cs t _ h => ⟨cs, cells_below hb h, rfl⟩⟩

theorem fenv_sh_le {rw : List Nat} : (fenv w0 D Dp w G R rw).sh.Le (fenv w0 D Dp w G R rw) := Env.sh_le fun _ _ h => ⟨h.1, fun hb => .inl (h.2.1 hb), h.2.2⟩
theorem Kept.grow {G0 : List Nat} {w0 w w' : World} (h : Kept G0 w0 w) (hb : Below w.heap.size w w') : Kept G0 w0 w' := by
  refine ⟨hb.os.trans h.os, hb.tape.trans h.tape, hb.output.trans h.output, Nat.le_trans h.size hb.size, fun k hk hg => ?_, fun g cs t hg hc => ?_⟩
  · rw [hb.block k (Nat.lt_of_lt_of_le hk h.size)]; exact h.block k hk hg
  · obtain ⟨cs', h1, h2⟩ := h.bsz g cs t hg hc
    exact ⟨cs', cells_below hb h1, h2⟩
theorem put_getD {a : Act} {d i : Nat} {u : Value} (hd : d < a.tmps.size) : (a.put (some d) u).tmps.getD i undef = if i = d then u else a.tmps.getD i undef := by
  simp only [Act.put, Array.getD_eq_getD_getElem?]
  by_cases h : i = d
  · subst h; simp [hd]
  · rw [if_neg h, Array.getElem?_setIfInBounds_ne (fun e => h e.symm)]

theorem BoxesAt.grow {E E' : Env} {G : List Nat} {bx : List (List PV)} (h : BoxesAt E G bx) (hle : E.Le E') (hb : Below E.w.heap.size E.w E'.w) : BoxesAt E' G bx := by
  refine ⟨h.len, fun i g cs hg hc => ?_, h.gn⟩
  obtain ⟨us, vs, t, h2, h3, h4⟩ := h.bx i g cs hg hc
  exact ⟨us, vs, t, cells_below hb h2, h3.mono hle, h4⟩
/-- the world grows, nothing of it turns -/
theorem FI.grow (h : FI nt w0 G0 D Dp G R st a w) (hb : Below w.heap.size w w') : FI nt w0 G0 D Dp G R st a w' := by
  have hle := fenv_le (w0 := w0) (D := D) (Dp := Dp) (G := G) (R := R) (rw := st.rw) hb
  refine ⟨h.hB.grow hb, h.g0, h.gnew, h.defers, h.size, fun i hi => (h.slots i hi).mono hle, h.bxs.grow hle hb, h.rn, ?_, h.rinj⟩
  intro k r n hk hn
  obtain ⟨h1, h2, xs, h3⟩ := h.rws k r n hk hn
  exact ⟨h1, h2, xs, ownsRow_below h3 hb (Nat.le_refl _)⟩
/-- a slot is written -/
theorem FI.put (h : FI nt w0 G0 D Dp G R st a w) {d : Nat} (hd : d < nt) (hd5 : d < 512) {v : PV} {u : Value} (hv : Rel (fenv w0 D Dp w G R st.rw) v u) : FI nt w0 G0 D Dp G R (st.put (slot d) v) (a.put (some d) u) w := by
  refine ⟨h.hB, h.g0, h.gnew, h.defers, by simp [Act.put, h.size], fun i hi => ?_, h.bxs, h.rn, h.rws, h.rinj⟩
  rw [put_getD (by rw [h.size]; exact hd)]
  show Rel _ ((st.s.put (slot d) v).get (slot i)) _
  rw [Slots.get_put]
  by_cases hid : i = d
  · subst hid; rw [if_pos rfl, if_pos rfl]; exact hv
  · rw [if_neg hid, if_neg (fun e => hid (slot_inj hi hd5 e))]; exact h.slots i hi
theorem FI.quiet (h : FI nt w0 G0 D Dp G R st a w) (hb : Below w.heap.size w w') {d : Nat} (hd : d < nt) (hd5 : d < 512) {v : PV} {u : Value} (hv : Rel (fenv w0 D Dp w' G R st.rw) v u) : FI nt w0 G0 D Dp G R (st.put (slot d) v) (a.put (some d) u) w' :=
  (h.grow hb).put hd hd5 hv

/-- the fact about an operand -/
theorem FI.ev (h : FI nt w0 G0 D Dp G R st a w) {t : Nat} (ht : t < 512) : Rel (fenv w0 D Dp w G R st.rw) (st.ev (.s (slot t))) (a.eval (.tmp t)) := h.slots t ht
end
end Go.Proofs.Ytdkancgcefklfaa
