/-
  Walk of the program's Repair.
-/
import Derived.Test.YtekgcedbejafeaaP
namespace Go.Proofs.Ytekgcedbejafeaa
open Go.RowKit

def readL (l : List UInt8) : List (List UInt8) := readP (l.length + 1) l
/-- it returns a new row of bytes -/
def RetB (w : World) (l : List UInt8) (en : Ending) (w' : World) : Prop :=
  ∃ v, en = .returned v ∧ w'.ownsRow w.heap.size 5 1 v l.length (l.map bV) ∧ Below w.heap.size w w'
theorem readL_split (l : List UInt8) : Lines (readL l) ∧ ∃ rest, l = bytesL (readL l) ++ rest ∧ (parse rest).2 = false := by
  obtain ⟨h1, rest, h2, h3⟩ := readP_spec (l.length + 1) l
  exact ⟨h1, rest, h2, h3 (by omega)⟩
theorem readL_take (l : List UInt8) : l.take (bytesOf (readL l)) = bytesL (readL l) ∧ bytesOf (readL l) ≤ l.length := by
  obtain ⟨_, rest, h, _⟩ := readL_split l
  rw [bytesOf_eq]
  generalize bytesL (readL l) = x at *
  subst h
  simp

set_option maxHeartbeats 400000 in
theorem repair (A : Option Addr) (c : Nat) (l : List UInt8) (w : World) (B : Nat) (hB : B ≤ w.heap.size) (h1 : Lies w B A (l.map bV)) (hA2 : A = none → c = 0) (hl : l.length ≤ 100000) (hc : l.length ≤ c) :
    Calls Try.prog 18 #[.slice A l.length c] w (RetB w (bytesL (readL l))) := by
  obtain ⟨htk, hle⟩ := readL_take l
  have hbo := bytesOf_eq (readL l)
  have hrd := read A c l w B hB h1 hA2 hl hc
  change Calls _ _ _ _ (RetLines w (readL l) (bytesOf (readL l))) at hrd
  generalize bytesOf (readL l) = n at *
  have HT := Lib.hid htk
  have HO := Lib.hid hbo
  have HR := Lib.hid hrd
  clear htk hbo hrd hA2
  have hsl : ∃ A', (∀ w, (Instr.slice 23 (.slice A l.length c) none (some (.int .i64 n)) none).run Try.prog w = .ok (.slice A' n c) w) ∧ ∀ (w : World) B, Lies w B A (l.map bV) → Lies w B A' ((l.take n).map bV) := by
    refine ⟨if c = 0 then A else A.map (·.add 0), fun w => ?_, fun w B h => ?_⟩
    · rw [run_slice_h w 23 A l.length c (by kernel_rfl) .i64 n (by omega) (by omega), show Try.prog.elem 23 = 5 by kernel_rfl, sizeOf5]
      simp [sliced]
    · have e : (if c = 0 then A else A.map (·.add 0)) = A := by
        split
        · rfl
        · cases A <;> simp [Addr.add]
      rw [e, List.map_take]; exact h.take n
  obtain ⟨A', hsl, hli⟩ := hsl
  go_enter Try.func18, Try.ntmps18
  go_wp2_with (first
    | (go_at_call 15; go_must (refine HR.out.mono ?_; rintro e w1 ⟨v1, rfl, hown1, hb1⟩))
    | (at_builtin; go_must (refine wpList_appN _ rfl (.tmp 10) (.tmp 13) 23 rfl w1.heap.size 5 (.int .u8 0) 1 1 Try.underlying23 ei5 rfl (by omega) _ 0 _ rfl (World.ownsRow_lit w1 #[] 0 (Nat.le_refl _) (by simp [maxLen]) rfl) A' n c B ((l.take n).map bV) rfl (by simp; omega) (hli _ _ (h1.below ((hb1.mono hB).alloc (by have := hb1.size; omega) _))) (map_bV_one _) (by omega) (by omega) (by simp) ?_; intro v2 w2 hown2 hg2 hb2 hat2)))
  go_ret
  refine ⟨_, rfl, ?_, (hb1.trans ((Below.refl _ _).alloc (by exact hb1.size) _)).trans (hb2.mono hb1.size)⟩
  rw [HT.out] at hown2
  rw [← HO.out]
  exact ownsRow_base (by simpa using hown2) hb1.size

end Go.Proofs.Ytekgcedbejafeaa
