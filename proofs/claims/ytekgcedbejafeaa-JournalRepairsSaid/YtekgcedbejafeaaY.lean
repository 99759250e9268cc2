/-
  What all rows of this seat share.
-/
import Derived.Test.YtekgcedbejafeaaLib4
import Derived.Test.YtekgcedbejafeaaRows
namespace Go.Proofs.Ytekgcedbejafeaa
open Go.RowKit Go.WideShapes Go.ChangeShapes Go.ChangeAt

theorem own0 : ownKnob Try.prog.godebug = none := by kernel_rfl
theorem laidOut : laidOutB Try.prog = true := by kernel_rfl
theorem word_of {n : Int} (h : (Lit.int .u16 n).wf = true) : ∃ k : Nat, n = k ∧ k < 65536 := by
  simp [Lit.wf, IntKind.min, IntKind.max, IntKind.signed, IntKind.bits] at h
  exact ⟨n.toNat, by omega, by omega⟩
theorem two_words {H : Type} {enc : TypeId × Value → H} {W : World} {base : Nat} {v : Value} {d : DataW H} (hv : Value.okWide Try.prog W .any base 42 v) (h : Rd enc Try.prog W 42 v.cells.toList d) :
    ∃ k j : Nat, v = .agg #[.int .u16 k, .int .u16 j] ∧ k < 65536 ∧ j < 65536 := by
  have hu : Try.prog.underlying 42 = some (.array 2 37) := Try.underlying42
  simp only [Value.okWide, hu] at hv
  obtain ⟨cs, rfl, _, _⟩ := hv
  have hc1 : Try.prog.cellsOf 37 = 1 := by kernel_rfl
  have hc2 : Try.prog.cellsOf 42 = 2 := by kernel_rfl
  obtain ⟨h1, h2⟩ := rd_array hu h
  obtain ⟨y0, g0⟩ := h2 0 (by omega)
  obtain ⟨y1, g1⟩ := h2 1 (by omega)
  obtain ⟨a, e0, w0⟩ := rd_int Try.underlying37 g0
  obtain ⟨b, e1, w1⟩ := rd_int Try.underlying37 g1
  obtain ⟨k, rfl, hk⟩ := word_of w0
  obtain ⟨j, rfl, hj⟩ := word_of w1
  refine ⟨k, j, ?_, hk, hj⟩
  simp only [Value.cells, hc1, hc2] at h1 e0 e1
  obtain ⟨l⟩ := cs
  match l, h1 with
  | [x, y], _ =>
    simp at e0 e1
    rw [e0, e1]
end Go.Proofs.Ytekgcedbejafeaa
