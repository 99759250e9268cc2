/-
  Cuts of slices at their end; regions that draw their order at the laws' level.
-/
import Derived.Test.YtdkancgcefklfaaLib4
namespace Go.Proofs.Ytdkancgcefklfaa
open Go.RowKit

theorem run_upto {P : Program} (w : World) {t e : TypeId} (ht : P.underlying t = some (.slice e)) (he : P.elem t = e) (hs : ∀ w, (sizeOf e).run P w = .ok 1 w) (A : Option Addr) (n cap k : Nat) (h1 : k ≤ cap) :
    (Instr.slice t (.slice A n cap) none (some (.int .i64 k)) none).run P w = .ok (.slice A k cap) w := by
  rw [run_slice_h w t A n cap (by rw [he]; exact ht) .i64 k (by omega) (by omega), he, hs]
  have e0 : (if cap = 0 then A else A.map (·.add 0)) = A := by
    split
    · rfl
    · cases A <;> simp [Addr.add]
  simp [sliced, e0]
end Go.Proofs.Ytdkancgcefklfaa
