/-
  Walks of bytes.Cut at a line's end, of the program's Read and of Repair.
-/
import Derived.Test.YtekgcedbejafeaaG
import Derived.Test.YtekgcedbejafeaaShelf
import Derived.Lib.QuietBelow
namespace Go.Proofs.Ytekgcedbejafeaa
open Go.RowKit

theorem indexByte_idx (l : List UInt8) (c : UInt8) : Lib.indexByte l c = if l.idxOf c < l.length then ((l.idxOf c : Nat) : Int) else -1 := by
  rcases Int.lt_or_le (Lib.indexByte l c) 0 with h | h
  · have hm : Lib.indexByte l c = -1 := by have := Lib.indexByte_ge l c; omega
    rw [hm, if_neg]
    intro hl
    have := Lib.indexByte_none hm (l.idxOf c)
    exact this (by rw [List.getElem?_eq_getElem hl, List.getElem_idxOf hl])
  · obtain ⟨o, ho⟩ := Int.eq_ofNat_of_zero_le h
    obtain ⟨h1, h2⟩ := Lib.indexByte_some ho
    have hlt : o < l.length := (List.getElem?_eq_some_iff.1 h1).1
    have hge : o ≤ l.idxOf c := by
      rcases Nat.lt_or_ge (l.idxOf c) o with h3 | h3
      · exact absurd (by rw [List.getElem?_eq_getElem (by omega), List.getElem_idxOf]) (h2 _ h3)
      · exact h3
    have hle : l.idxOf c ≤ o := by
      rcases Nat.lt_or_ge o (l.idxOf c) with h3 | h3
      · have h4 := List.not_of_lt_findIdx (p := (· == c)) (xs := l) h3
        have h5 := (List.getElem?_eq_some_iff.1 h1).2
        simp [h5] at h4
      · exact h3
    rw [ho, if_pos (by omega)]; omega
theorem bytesOf_ints (l : List UInt8) : Lib.bytesOf (l.map fun c => (c.toNat : Int)) = l := by
  rw [Lib.bytesOf, List.map_map]
  have : ((fun n : Int => UInt8.ofNat n.toNat) ∘ fun c : UInt8 => (c.toNat : Int)) = id := by funext c; simp
  rw [this]; simp
theorem lies_ints {w : World} {b o B : Nat} {l : List UInt8} (h : Lies w B (some ⟨b, o, none⟩) (l.map bV)) : ∀ i, i < l.length → w.cell? ⟨b, o + i, none⟩ = some (.int .u8 ((l.map fun c => (c.toNat : Int)).getD i 0)) := by
  intro i hi
  obtain ⟨b', o', e, _, hc⟩ := h (by rintro e; simp at e; subst e; simp at hi)
  simp only [Option.some.injEq, Addr.mk.injEq, and_true] at e
  obtain ⟨rfl, rfl⟩ := e
  have := hc i (by simpa using hi)
  rw [this, List.getElem_map, bV, List.getD_eq_getElem?_getD, List.getElem?_map, List.getElem?_eq_getElem hi]; rfl

set_option maxHeartbeats 400000 in
theorem cutYes (b o cap b2 d i : Nat) (l : List UInt8) (w : World) (B : Nat) (h1 : Lies w B (some ⟨b, o, none⟩) (l.map bV)) (h2 : w.cell? ⟨b2, 0, none⟩ = some (.int .u8 10)) (hc : l.length ≤ cap) (hi : l.idxOf 10 = i) (hlt : i < l.length) (hl : l.length ≤ 1000000) :
    Calls Try.prog 25 #[.slice (some ⟨b, o, none⟩) l.length cap, .slice (some ⟨b2, 0, none⟩) 1 d] w fun e w' => (∃ rest, e = .returned (.tuple #[.slice (some ⟨b, o, none⟩) i cap, rest, .bool true])) ∧ ∃ n, w' = w.drewN n := by
  have hidx := Try.bytes_Index_one b o l.length cap b2 0 d (l.map fun c => (c.toNat : Int)) 10 w (by simp) (lies_ints h1) h2
  rw [bytesOf_ints, indexByte_idx] at hidx
  rw [show ((10 : Int).toNat.toUInt8) = 10 from rfl, hi, if_pos hlt] at hidx
  have HI := Lib.hid hidx
  clear hidx
  have HI2 := Lib.hid hi
  clear hi
  go_enter Try.func25, Try.ntmps25
  go_wp2_with (go_at_call 28; go_must (refine HI.out.mono ?_; rintro e w' ⟨rfl, rfl⟩))
  go_quiet (fail)
  all_goals go_wp2
  all_goals go_ret3
  all_goals exact ⟨⟨_, rfl⟩, _, rfl⟩

set_option maxHeartbeats 400000 in
theorem cutNo (A : Option Addr) (cap b2 d : Nat) (l : List UInt8) (w : World) (B : Nat) (h1 : Lies w B A (l.map bV)) (h2 : w.cell? ⟨b2, 0, none⟩ = some (.int .u8 10)) (hA2 : A = none → cap = 0) (hi : ¬ l.idxOf 10 < l.length) (hl : l.length ≤ 1000000) :
    Calls Try.prog 25 #[.slice A l.length cap, .slice (some ⟨b2, 0, none⟩) 1 d] w fun e w' => e = .returned (.tuple #[.slice A l.length cap, .slice none 0 0, .bool false]) ∧ w = w' := by
  have key : Calls Try.prog 28 #[.slice A l.length cap, .slice (some ⟨b2, 0, none⟩) 1 d] w fun e w' => e = .returned (.int .i64 (-1)) ∧ w' = w := by
    rcases A with _ | a
    · have hn : l = [] := by
        cases l with
        | nil => rfl
        | cons x r =>
          obtain ⟨b, o, e, _⟩ := h1 (by simp)
          cases e
      subst hn
      have := hA2 rfl
      subst this
      exact Try.bytes_Index_one_nil b2 0 d 10 w h2
    · have hcell : ∀ i, i < l.length → w.cell? (a.add i) = some (.int .u8 ((l.map fun c => (c.toNat : Int)).getD i 0)) := by
        intro i hi
        obtain ⟨b, o, e, _, _⟩ := id h1 (by rintro e; simp at e; subst e; simp at hi)
        simp only [Option.some.injEq] at e
        subst e
        rw [← lies_ints h1 i hi]
        unfold Addr.add
        split <;> simp_all
      have hidx := Try.bytes_Index_one_at a l.length cap b2 0 d (l.map fun c => (c.toNat : Int)) 10 w (by simp) hcell h2
      rw [bytesOf_ints, indexByte_idx] at hidx
      rw [show ((10 : Int).toNat.toUInt8) = 10 from rfl, if_neg hi] at hidx
      exact hidx
  have HI := Lib.hid key
  clear key
  clear hi hA2
  go_enter Try.func25, Try.ntmps25
  go_wp2_with (go_at_call 28; go_must (refine HI.out.mono ?_; rintro e w' ⟨rfl, rfl⟩))
  go_ret3
  exact ⟨rfl, rfl⟩

/-- what the program reads of an entry with which s begins -/
def parse (s : List UInt8) : List UInt8 × Bool :=
  if s.idxOf 10 < s.length ∧ 9 ≤ s.idxOf 10 then
    if s[8]? = some 32 then (lineOf s (s.idxOf 10), lineB (lineOf s (s.idxOf 10)) && (sumL (lineOf s (s.idxOf 10)) == s.take 8)) else ([], false)
  else ([], false)
def readP : Nat → List UInt8 → List (List UInt8)
  | 0, _ => []
  | f + 1, s => if (parse s).2 then (parse s).1 :: readP f (s.drop ((parse s).1.length + 10)) else []

end Go.Proofs.Ytekgcedbejafeaa
