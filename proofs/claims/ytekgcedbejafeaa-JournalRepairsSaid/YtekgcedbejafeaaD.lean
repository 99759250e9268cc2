/-
  Walks of the reference's Bytes, first, Read and Put.
-/
import Derived.Test.YtekgcedbejafeaaC
import Derived.Lib.AppendStr
namespace Go.Proofs.Ytekgcedbejafeaa
open Go.RowKit

/-- a slice of bytes of the call's own, in a block that a string's conversion made: it can be read and written -/
def OwnB (w : World) (base : Nat) (v : Value) (l : List UInt8) : Prop :=
  ∃ g cap cur fr, v = .slice (some ⟨g, 0, none⟩) l.length cap ∧ base ≤ g ∧ w.heap[g]? = some (.cells cur 5 fr) ∧ l.length ≤ cap ∧ cap ≤ maxLen ∧ (cur.size ≤ fr.1 ∨ fr = (0, 0)) ∧ l.length ≤ cur.size ∧ cur.toList.take l.length = l.map bV

def bytesL (ls : List (List UInt8)) : List UInt8 := (ls.map entryL).flatten
theorem bytesL_snoc (ls : List (List UInt8)) (k : Nat) (h : k < ls.length) : bytesL (ls.take (k + 1)) = bytesL (ls.take k) ++ entryL ls[k] := by
  unfold bytesL; rw [take_snoc' ls k h, List.map_append, List.flatten_append]; simp
theorem bytesL_length (ls : List (List UInt8)) (h : ∀ l ∈ ls, l.length ≤ 1000) : (bytesL ls).length ≤ ls.length * 1010 := by
  induction ls with
  | nil => simp [bytesL]
  | cons x r ih =>
    have h1 := h x (by simp)
    have h2 := ih fun l hl => h l (by simp [hl])
    have : bytesL (x :: r) = entryL x ++ bytesL r := rfl
    rw [this, List.length_append, entryL_length]; simp; omega
def RetBytes (w : World) (l : List UInt8) (en : Ending) (w' : World) : Prop := ∃ v, en = .returned v ∧ OwnB w' w.heap.size v l ∧ Below w.heap.size w w'

theorem ownB_conv (w : World) (base : Nat) (l : List UInt8) (cap : Nat) (hb : base ≤ w.heap.size) (h1 : l.length ≤ cap) (h2 : cap ≤ maxLen) :
    OwnB (w.drew.alloc (.cells (bytesRow ⟨l.toArray⟩ cap) 5 ((bytesRow ⟨l.toArray⟩ cap).size, (bytesRow ⟨l.toArray⟩ cap).size + 1))) base (.slice (some ⟨w.heap.size, 0, none⟩) (ByteArray.mk l.toArray).size cap) l := by
  refine ⟨w.heap.size, cap, _, _, by rw [str_size], hb, heap_alloc_new w.drew _, h1, h2, .inl (Nat.le_refl _), ?_, ?_⟩
  · simp [bytesRow]
  · simp [bytesRow, bV]
set_option maxHeartbeats 400000 in
theorem bytes (A : Option Addr) (c : Nat) (ls : List (List UInt8)) (w : World) (B : Nat) (h1 : Lies w B A (ls.map sV)) (hx : ls.length ≤ 1000) (hb : ∀ x ∈ ls, x.length ≤ 1000) :
    Calls Try.prog 11 #[.slice A ls.length c] w (RetBytes w (bytesL ls)) := by
  go_enter Try.func11, Try.ntmps11
  go_wp2
  go_loop [3, 4] (fun s i => ∃ k : Nat, k ≤ ls.length ∧ i = .int .i64 k ∧ s = .string ⟨(bytesL (ls.take k)).toArray⟩) (fun _ i => ls.length - (intOf i).toNat)
  case atStart => exact ⟨0, by omega, rfl, rfl⟩
  case round =>
    obtain ⟨k, hk, rfl, rfl⟩ := hrel
    have hl := bytesL_length (ls.take k) (fun l hl => hb l (List.mem_of_mem_take hl))
    rw [List.length_take, Nat.min_eq_left hk] at hl
    by_cases hlt : k < ls.length
    · obtain ⟨g, o, rfl, hbB, hcell⟩ := h1.at_ (k := k) (by simpa using hlt)
      simp only [List.getElem_map, sV] at hcell
      have hlen := hb ls[k] (List.getElem_mem _)
      have hsz := str_size ls[k]
      have hel := entryL_length ls[k]
      have hsn := Lib.hid (bytesL_snoc ls k hlt)
      go_wp2_with (go_at_call 21; refine (entry _ _ (by omega)).mono ?_; rintro e w' ⟨rfl, rfl⟩)
      go_round
      case rel => exact ⟨k + 1, by omega, by go_num, by rw [hsn.out, str_app]⟩
      case measure => simp [intOf]; omega
    · have hts : ls.take k = ls := List.take_of_length_le (by omega)
      rw [hts] at hl ⊢
      clear hts
      have hcv := fun w => run_bytes_of_string (P := Try.prog) w 9 23 5 ⟨(bytesL ls).toArray⟩ Try.underlying9 Try.underlying23 Try.underlying5
      go_wp2
      go_ret
      refine ⟨_, rfl, ownB_conv w _ _ _ (Nat.le_refl _) ?_ ?_, ((Below.refl _ _).drew).alloc (Nat.le_refl _) _⟩
      · have := grownCap_ge w (ByteArray.mk (bytesL ls).toArray).size 0 5
        rwa [str_size] at this
      · refine grownCap_le_maxLen _ _ _ _ ?_
        simp only [maxLen]; omega

end Go.Proofs.Ytekgcedbejafeaa
