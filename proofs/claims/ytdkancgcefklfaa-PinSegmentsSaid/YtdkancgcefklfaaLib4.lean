/-
  Arguments of common makes, opened: bytes, numbers, texts, slices of slices of bytes.
-/
import Derived.Test.YtdkancgcefklfaaLib3
namespace Go.Proofs.Ytdkancgcefklfaa
open Go.RowKit Go.WideShapes Go.ChangeShapes Go.ChangeAt

/-- a slice of bytes as a cell of a slice holds it -/
def slV (x : Option Addr × Nat × List UInt8) : Value := .slice x.1 x.2.2.length x.2.1
/-- slices of bytes that lie in memory -/
def LiesAll (w : World) (B : Nat) (xs : List (Option Addr × Nat × List UInt8)) : Prop := ∀ x ∈ xs, Lies w B x.1 (x.2.2.map bV) ∧ x.2.2.length ≤ maxLen
theorem LiesAll.step {w w' : World} {xs : List (Option Addr × Nat × List UInt8)} (h : LiesAll w w.heap.size xs) (hb : Below w.heap.size w w') : LiesAll w' w'.heap.size xs :=
  fun x hx => ⟨((h x hx).1.below hb).more hb.size, (h x hx).2⟩

section
variable {H : Type} {enc : TypeId × Value → H} {P : Program} {w : World}

theorem choose_list {α β : Type} {R : α → β → Prop} : ∀ {l : List α}, (∀ x ∈ l, ∃ y, R x y) → ∃ r : List β, r.length = l.length ∧ ∀ (i : Nat) (h : i < l.length) (h' : i < r.length), R l[i] r[i]
  | [], _ => ⟨[], rfl, fun i h => by simp at h⟩
  | x :: l, h => by
    obtain ⟨y, hy⟩ := h x (by simp)
    obtain ⟨r, h1, h2⟩ := choose_list (l := l) (fun z hz => h z (by simp [hz]))
    refine ⟨y :: r, by simp [h1], fun i hi hi' => ?_⟩
    cases i with
    | zero => simpa using hy
    | succ i => simpa using h2 i (by simpa using hi) (by simpa using hi')
theorem flat_one {css : List (List Value)} {xs : List Value} (hl : xs.length = css.length) (h : ∀ (i : Nat) (h : i < css.length) (h' : i < xs.length), css[i] = [xs[i]]) : css.flatten = xs := by
  induction css generalizing xs with
  | nil => cases xs <;> simp_all
  | cons c css ih =>
    cases xs with
    | nil => simp at hl
    | cons x xs =>
      have h0 := h 0 (by simp) (by simp)
      simp only [List.getElem_cons_zero] at h0
      rw [List.flatten_cons, h0, ih (by simpa using hl) (fun i hi hi' => by
        have := h (i + 1) (by simp; omega) (by simp; omega)
        simpa using this)]
      rfl
/-- a slice of one-cell elements: what each element is, as one list -/
theorem rd_list {β : Type} (f : β → Value) {t e : TypeId} {A : Option Addr} {n c : Nat} {d : DataW H} {R : β → Prop} (ht : P.underlying t = some (.slice e)) (h : Rd enc P w t [.slice A n c] d)
    (he : ∀ cs y, Rd enc P w e cs y → ∃ b, cs = [f b] ∧ R b) :
    n ≤ c ∧ c ≤ maxLen ∧ (A = none → c = 0) ∧ ∃ xs : List β, xs.length = n ∧ Lies w w.heap.size A (xs.map f) ∧ ∀ b ∈ xs, R b := by
  obtain ⟨h1, h2, h3, css, h4, h5, h6⟩ := rd_slice ht h
  obtain ⟨xs, h7, h8⟩ := choose_list (R := fun cs b => cs = [f b] ∧ R b) (l := css) (fun cs hcs => by
    obtain ⟨_, y, hy⟩ := h6 cs hcs
    exact he cs y hy)
  refine ⟨h1, h2, h3, xs, h7.trans h4, ?_, ?_⟩
  · rw [← flat_one (css := css) (xs := xs.map f) (by simp [h7]) (fun i hi hi' => by
      rw [(h8 i hi (by omega)).1, List.getElem_map])]
    exact h5
  · intro b hb
    obtain ⟨i, hi, rfl⟩ := List.getElem_of_mem hb
    exact (h8 i (by omega) hi).2
theorem byte_of {n : Int} (h : (Lit.int .u8 n).wf = true) : ∃ b : UInt8, n = b.toNat := by
  have h' : 0 ≤ n ∧ n < 256 := by
    simp [Lit.wf, IntKind.min, IntKind.max, IntKind.signed, IntKind.bits] at h
    omega
  refine ⟨UInt8.ofNat n.toNat, ?_⟩
  rw [UInt8.toNat_ofNat']
  omega
theorem rd_bytes {t e : TypeId} {A : Option Addr} {n c : Nat} {d : DataW H} (ht : P.underlying t = some (.slice e)) (he : P.underlying e = some (.int .u8)) (h : Rd enc P w t [.slice A n c] d) :
    n ≤ c ∧ c ≤ maxLen ∧ (A = none → c = 0) ∧ ∃ l : List UInt8, l.length = n ∧ Lies w w.heap.size A (l.map bV) := by
  obtain ⟨h1, h2, h3, xs, h4, h5, _⟩ := rd_list (R := fun _ => True) bV ht h (fun cs y hy => by
    obtain ⟨m, rfl, hw⟩ := rd_int he hy
    obtain ⟨b, rfl⟩ := byte_of hw
    exact ⟨b, rfl, trivial⟩)
  exact ⟨h1, h2, h3, xs, h4, h5⟩
theorem slice_cells {t e : TypeId} {cs : List Value} {d : DataW H} (ht : P.underlying t = some (.slice e)) (h : Rd enc P w t cs d) : ∃ A n c, cs = [.slice A n c] := by
  obtain ⟨fuel, ps, h⟩ := h
  cases fuel with
  | zero => simp [DataW.trod] at h
  | succ fuel =>
    simp only [DataW.trod, ht] at h
    split at h <;> simp_all
theorem rd_rows {t q e : TypeId} {A : Option Addr} {n c : Nat} {d : DataW H} (ht : P.underlying t = some (.slice q)) (hq : P.underlying q = some (.slice e)) (he : P.underlying e = some (.int .u8)) (h : Rd enc P w t [.slice A n c] d) :
    n ≤ c ∧ c ≤ maxLen ∧ (A = none → c = 0) ∧ ∃ xs : List (Option Addr × Nat × List UInt8), xs.length = n ∧ Lies w w.heap.size A (xs.map slV) ∧ LiesAll w w.heap.size xs := by
  obtain ⟨h1, h2, h3, xs, h4, h5, h6⟩ := rd_list (R := fun x => Lies w w.heap.size x.1 (x.2.2.map bV) ∧ x.2.2.length ≤ maxLen) slV ht h (fun cs y hy => by
    obtain ⟨A', n', c', rfl⟩ := slice_cells hq hy
    obtain ⟨g1, g2, _, l, rfl, g4⟩ := rd_bytes hq he hy
    exact ⟨(A', c', l), rfl, g4, by show l.length ≤ maxLen; omega⟩)
  exact ⟨h1, h2, h3, xs, h4, h5, h6⟩
end
end Go.Proofs.Ytdkancgcefklfaa
