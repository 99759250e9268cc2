/-
  A region that draws its order, walked once: what only reads is stated of every world of a class, what acts comes up alone.
-/
import Derived.Test.YtekgcedbejafeaaLib5
import Derived.OrdersHeld
import Derived.Deep.RegionHeld3
import Derived.Lib.QuietBelow
namespace Go.Proofs.Ytekgcedbejafeaa
open Go.RowKit

/-- one order, an operation at a time; a flag says that the operation must come up alone -/
def seqB (ops : Array Oper) : List (Nat × Bool) → Array Bool → Bool
  | [], listed => (Region.ready .any ops listed).isEmpty
  | (i, true) :: r, listed => (Region.ready .any ops listed == [i]) && seqB ops r (listed.setIfInBounds i true)
  | (i, false) :: r, listed => (Region.ready .any ops listed).contains i && Region.free .any ops listed i && seqB ops r (listed.setIfInBounds i true)

section
variable {P : Program} {ops : Array Oper} {S : World → Prop} {Q : Exit → Act → World → Prop}

def wpSeq (P : Program) (ops : Array Oper) (S : World → Prop) (Q : Exit → Act → World → Prop) : List (Nat × Bool) → Act → World → Prop
  | [], a, w => Q .normal a w
  | (i, true) :: r, a, w => wpOp P ops (NoPanic Q) i (fun a' w' => S w' ∧ wpSeq P ops S Q r a' w') a w
  | (i, false) :: r, a, w => ∃ o v, ops[i]? = some o ∧ YieldsIf P ops S o v a ∧ wpSeq P ops S Q r (a.put o.dst v) w

theorem wpAnyH_seq (hs : Region.noSelect ops = true) : ∀ (l : List (Nat × Bool)) (listed : Array Bool) (a : Act) (w : World), S w → seqB ops l listed = true → wpSeq P ops S Q l a w → wpAnyH P .any ops (NoPanic Q) S l.length listed a w
  | [], listed, a, w, _, hB, h => by
    have h0 : Region.ready .any ops listed = [] := by simpa [seqB] using hB
    exact ⟨h0, h⟩
  | (i, true) :: r, listed, a, w, hS, hB, h => by
    simp only [seqB, Bool.and_eq_true, beq_iff_eq] at hB
    have h1 := hB.1
    have h2 := hB.2
    refine ⟨fun h0 => absurd (h0.symm.trans h1) (by simp), fun j hj => ?_⟩
    rw [h1, List.mem_singleton] at hj
    subst hj
    exact wpOp_mono (fun a' w' h' => ⟨h'.1, wpAnyH_seq hs r _ a' w' h'.1 h2 h'.2⟩) h
  | (i, false) :: r, listed, a, w, hS, hB, h => by
    simp only [seqB, Bool.and_eq_true, List.contains_iff_mem] at hB
    obtain ⟨⟨h1, h2⟩, h3⟩ := hB
    obtain ⟨o, v, ho, hy, hr⟩ := h
    exact wpAnyH_first ho (Region.noSelect_spec hs) (fun _ _ _ hf => hf.elim) r.length listed a w (Region.free_spec ho h2) h1 hy hS (wpAnyH_seq hs r _ _ _ hS h3 hr)

/-- the region, by one order of its operations -/
theorem wp_region_seq {id : Nat} {a : Act} {w : World} {ol : List Oper} (l : List (Nat × Bool)) (hm : P.follows .mixedOrders = true) (hs : Region.noSelect ol.toArray = true)
    (hB : (seqB ol.toArray l (Array.replicate ol.toArray.size false) && l.length == ol.toArray.size) = true) (hS : S { w with drawn := w.drawn + 1 })
    (h : wpSeq P ol.toArray S Q l a { w with drawn := w.drawn + 1 }) : (Code.region id ol.toArray true).wp P Q a w := by
  simp only [Bool.and_eq_true, beq_iff_eq] at hB
  refine wp_region_noPanic (wp_region_held (S := S) hm ?_)
  have := wpAnyH_seq hs l _ a _ hS hB.1 h
  rwa [hB.2] at this

/-- the class: blocks may have been laid behind w, draws may have been made; nothing that was there has turned -/
def Cls (w : World) (w' : World) : Prop := ∃ p : Regrown, w' = Sort.grow (redrawn w p.d) p.os
theorem Cls.below {w w' : World} (h : Cls w w') : Below w.heap.size w w' := by
  obtain ⟨p, rfl⟩ := h
  exact below_regrown w p.d p.os
theorem Cls.of {w w' : World} (h : Below w.heap.size w w') : Cls w w' := regrown_of_below h
theorem wp_region_cls {id : Nat} {a : Act} {w : World} {ol : List Oper} (l : List (Nat × Bool)) (hm : P.follows .mixedOrders = true) (hs : Region.noSelect ol.toArray = true)
    (hB : (seqB ol.toArray l (Array.replicate ol.toArray.size false) && l.length == ol.toArray.size) = true)
    (h : ∀ w', Below w.heap.size w w' → wpSeq P ol.toArray (Cls w) Q l a w') : (Code.region id ol.toArray true).wp P Q a w :=
  wp_region_seq l hm hs hB (Cls.of (below_drewN w 1 _)) (h _ (below_drewN w 1 _))

/-- an operation that only reads, what follows behind a letter -/
theorem seq_read {w0 : World} {i : Nat} {r : List (Nat × Bool)} {a : Act} {w : World} {o : Oper} (ho : ops[i]? = some o)
    (h : ∀ K : Act → Prop, (∀ a, wpSeq P ops (Cls w0) Q r a w → K a) → if Region.wanted o (yielded ops a.tmps) then ∃ v, (∀ p : Regrown, (execOp a.eval o).run P (Sort.grow (redrawn w0 p.d) p.os) = .ok (.value v) (Sort.grow (redrawn w0 p.d) p.os)) ∧ K (a.put o.dst v) else K (a.put o.dst undef)) :
    wpSeq P ops (Cls w0) Q ((i, false) :: r) a w := by
  have := h _ (fun _ h => h)
  split at this
  · rename_i hw
    obtain ⟨v, h1, h2⟩ := this
    exact ⟨o, v, ho, .inl ⟨hw, fun w' hw' => by obtain ⟨p, rfl⟩ := hw'; exact h1 p⟩, h2⟩
  · rename_i hw
    exact ⟨o, undef, ho, .inr ⟨by simpa using hw, rfl⟩, this⟩
theorem seq_nil {a : Act} {w : World} (h : Q .normal a w) : wpSeq P ops S Q [] a w := h
/-- an operation that acts, and comes up alone -/
theorem seq_op {i : Nat} {r : List (Nat × Bool)} {a : Act} {w : World} {o : Oper} (ho : ops[i]? = some o)
    (h : ∀ K : Act → World → Prop, (∀ a w, S w → wpSeq P ops S Q r a w → K a w) → wpList P ops (Exit.then K (NoPanic Q)) [o] a w) :
    wpSeq P ops S Q ((i, true) :: r) a w := by
  have := h (fun a' w' => S w' ∧ wpSeq P ops S Q r a' w') (fun _ _ h1 h2 => ⟨h1, h2⟩)
  show wpOp P ops (NoPanic Q) i _ a w
  unfold wpOp
  simp only [ho]
  simp only [wpList] at this
  split
  · rename_i hw
    rw [if_pos hw] at this
    rcases this with h1 | h1
    · left
      unfold Oper.wp Oper.upon at h1 ⊢
      revert h1
      generalize (execOp a.eval o).run P w = res
      cases res with
      | ok n w' =>
        cases n with
        | enter f args =>
          intro h1
          refine Calls.mono h1 fun e w'' he => ?_
          cases e <;> exact he
        | _ => exact id
      | halt x w' => cases x <;> exact id
    · right; exact h1
  · rename_i hw
    rw [if_neg hw] at this
    exact this
end
end Go.Proofs.Ytekgcedbejafeaa
