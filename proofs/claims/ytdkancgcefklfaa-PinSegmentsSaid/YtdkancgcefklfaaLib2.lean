/-
  More words on memory: what lies in memory as one list of facts, carried from call to call.
-/
import Derived.Test.YtdkancgcefklfaaLib
import Derived.Handy
namespace Go.Proofs.Ytdkancgcefklfaa
open Go.RowKit

/-- each of these lies in memory -/
def Has (w : World) (fs : List (Option Addr × List Value)) : Prop := ∀ f ∈ fs, Lies w w.heap.size f.1 f.2
theorem Has.nil (w : World) : Has w [] := fun _ h => by cases h
theorem Has.step {w w' : World} {fs : List (Option Addr × List Value)} (h : Has w fs) (hb : Below w.heap.size w w') : Has w' fs := fun f hf => ((h f hf).below hb).more hb.size
theorem Has.cons {w : World} {fs : List (Option Addr × List Value)} {A : Option Addr} {xs : List Value} (h : Has w fs) (hl : Lies w w.heap.size A xs) : Has w ((A, xs) :: fs) := fun f hf => by
  rcases List.mem_cons.1 hf with rfl | hf
  · exact hl
  · exact h f hf
theorem Has.get {w : World} {fs : List (Option Addr × List Value)} (h : Has w fs) (i : Nat) {A : Option Addr} {xs : List Value} (hi : fs[i]? = some (A, xs)) : Lies w w.heap.size A xs := h (A, xs) (List.mem_of_getElem? hi)
/-- behind a block that the caller made itself -/
theorem below_a {w w' : World} {o : Obj} (h : Below (w.alloc o).heap.size (w.alloc o) w') : Below w.heap.size w w' := ((Below.refl _ _).alloc (Nat.le_refl _) _).trans (h.mono (by simp))
theorem below_aa {w w' : World} {o p : Obj} (h : Below ((w.alloc o).alloc p).heap.size ((w.alloc o).alloc p) w') : Below w.heap.size w w' := below_a (below_a h)
theorem below_al (w : World) (o : Obj) : Below w.heap.size w (w.alloc o) := (Below.refl _ _).alloc (Nat.le_refl _) _
theorem below_tr {a b c : World} (h : Below a.heap.size a b) (k : Below b.heap.size b c) : Below a.heap.size a c := h.trans (k.mono h.size)
theorem below_draws {w w' : World} (h : ∃ n, w' = w.drewN n) : Below w.heap.size w w' := by
  obtain ⟨n, rfl⟩ := h
  exact below_drewN _ _ _

theorem lies_block {w : World} {g : Nat} {cur : Array Value} {t : TypeId} {fr : Nat × Nat} {xs : List Value} (h : w.heap[g]? = some (.cells cur t fr)) (hx : cur.toList.take xs.length = xs) : Lies w w.heap.size (some ⟨g, 0, none⟩) xs := fun _ => by
  refine ⟨g, 0, rfl, (Array.getElem?_eq_some_iff.1 h).1, fun j hj => ?_⟩
  rw [cell_of_row w g _ cur t fr h, Nat.zero_add]
  have : xs[j]? = (cur.toList.take xs.length)[j]? := by rw [hx]
  rw [List.getElem?_take, if_pos hj, List.getElem?_eq_getElem hj] at this
  rw [← Array.getElem?_toList]; exact this.symm
theorem lies_new (w : World) (cur : Array Value) (t : TypeId) (fr : Nat × Nat) (xs : List Value) (h : cur.toList = xs) : Lies (w.alloc (.cells cur t fr)) (w.alloc (.cells cur t fr)).heap.size (some ⟨w.heap.size, 0, none⟩) xs :=
  lies_block (xs := xs) (heap_alloc_new w (.cells cur t fr)) (by rw [h]; simp)

theorem own_open {w : World} {base : Nat} {e : TypeId} {sz : Nat} {v : Value} {n : Nat} {xs : List Value} (h : w.ownsRow base e sz v n xs) :
    ∃ A c, v = .slice A n c ∧ Lies w w.heap.size A xs ∧ (A = none ∨ ∃ b o, A = some ⟨b, o, none⟩) ∧ (A = none → c = 0) ∧ n ≤ c := by
  rcases h.2 with ⟨rfl, rfl⟩ | ⟨g, cap, cur, rfl, hb, hg, hnc, hcm, hcs, htake⟩
  · have : xs = [] := List.eq_nil_of_length_eq_zero (by simpa using h.1)
    subst this
    exact ⟨none, 0, rfl, Lies.nil _ _ _, .inl rfl, fun _ => rfl, Nat.le_refl _⟩
  · obtain ⟨A, c, e1, h1, _, h2, _⟩ := ownsRow_form h
    simp only [Value.slice.injEq, true_and] at e1
    obtain ⟨rfl, rfl⟩ := e1
    exact ⟨_, _, rfl, h1, .inr ⟨_, _, rfl⟩, by simp, h2⟩
end Go.Proofs.Ytdkancgcefklfaa
