/-
  Walks of the reference's makers of texts.
-/
import Derived.Test.YtekgcedbejafeaaA
namespace Go.Proofs.Ytekgcedbejafeaa
open Go.RowKit

theorem ei5 : EInfo Try.prog 5 (.int .u8 0) 1 1 := by unfold EInfo; kernel_rfl
theorem ei9 : EInfo Try.prog 9 (.string ⟨#[]⟩) 1 16 := by unfold EInfo; kernel_rfl

/-- what Text makes of bytes -/
def textL (l : List UInt8) : List UInt8 := (l.take 30).map fun c => 32 + c % 95
theorem textL_snoc (l : List UInt8) (k : Nat) (h : k < l.length) (h3 : k < 30) : textL (l.take (k + 1)) = textL (l.take k) ++ [32 + l[k] % 95] := by
  simp only [textL, List.take_take]
  rw [Nat.min_eq_right (by omega), Nat.min_eq_right (by omega), take_snoc' l k h, List.map_append]; rfl
theorem textL_end (l : List UInt8) (k : Nat) (h : ¬ k < l.length ∨ ¬ k < 30) (hk : k ≤ l.length) (hk3 : k ≤ 30) : textL (l.take k) = textL l := by
  simp only [textL, List.take_take]
  rw [Nat.min_eq_right (by omega)]
  rcases h with h | h
  · rw [List.take_of_length_le (by omega), List.take_of_length_le (by omega)]
  · rw [show k = 30 by omega]
theorem textL_length (l : List UInt8) (k : Nat) (h : ¬ k < l.length ∨ ¬ k < 30) (hk : k ≤ l.length) (hk3 : k ≤ 30) : (textL l).length = k := by
  simp only [textL, List.length_map, List.length_take]; omega
theorem byteV (c : UInt8) : Value.int .u8 (32 + (c.toNat : Int) % 95) = bV (32 + c % 95) := by
  have h := c.toNat_lt
  simp [bV, UInt8.toNat_add, UInt8.toNat_mod]; omega

set_option maxHeartbeats 400000 in
theorem text (A : Option Addr) (c : Nat) (l : List UInt8) (w : World) (B : Nat) (hB : B ≤ w.heap.size) (hl : Lies w B A (l.map bV)) (hm : l.length ≤ maxLen) :
    Calls Try.prog 20 #[.slice A l.length c] w fun e w' => e = .returned (.string ⟨(textL l).toArray⟩) ∧ Below w.heap.size w w' := by
  unfold maxLen at hm
  go_enter Try.func20, Try.ntmps20
  go_wp2
  go_loopw [3, 4] (fun v i wr => ∃ k : Nat, k ≤ l.length ∧ k ≤ 30 ∧ i = .int .i64 k ∧ wr.ownsRow w.heap.size 5 1 v k ((textL (l.take k)).map bV) ∧ Below w.heap.size w wr) (fun _ i _ => 30 - (intOf i).toNat)
  case atStart => 
    exact ⟨0, by omega, by omega, rfl, World.ownsRow_lit _ _ _ (Nat.le_refl _) (by simp [maxLen]) rfl, (Below.refl _ _).alloc (Nat.le_refl _) _⟩
  case round =>
    obtain ⟨k, hk, hk3, rfl, hown, hb⟩ := hrel
    by_cases hlt : k < l.length
    · by_cases hlt3 : k < 30
      · obtain ⟨b, o, rfl, hbB, hcell⟩ := (hl.below (hb.mono hB)).at_ (k := k) (by simpa using hlt)
        simp only [List.getElem_map, bV] at hcell
        have hc := l[k].toNat_lt
        have hsn := Lib.hid (textL_snoc l k hlt hlt3)
        go_wp2_with (at_builtin; refine wpList_app1 _ rfl _ _ 23 rfl w.heap.size 5 (.int .u8 0) 1 1 Try.underlying23 ei5 rfl (by omega) _ k _ rfl hown _ rfl rfl (one1 rfl) (by omega) (by omega) hb.size ?_; intro v' w1 hown1 hg1 hb1 hat1)
        clear hown hcell
        go_roundw
        case rel => exact ⟨k + 1, by omega, by omega, by go_num, by rw [hsn.out, List.map_append, List.map_singleton, ← byteV]; exact hown1, hb.trans hb1⟩
        case measure => simp [intOf]; omega
      · obtain ⟨A', c', rfl, hl', _⟩ := ownsRow_form hown
        have hte := textL_end l k (Or.inr hlt3) hk hk3
        have hlen := Lib.hid (textL_length l k (Or.inr hlt3) hk hk3)
        rw [hte] at hl'
        have hconv := run_bytes_string (P := Try.prog) (dst := 9) Try.underlying23 Try.underlying5 Try.underlying9 _ c' hl'
        rw [hlen.out] at hconv
        go_wp2
        go_ret
        exact ⟨rfl, hb⟩
    · obtain ⟨A', c', rfl, hl', _⟩ := ownsRow_form hown
      have hte := textL_end l k (Or.inl hlt) hk hk3
      have hlen := Lib.hid (textL_length l k (Or.inl hlt) hk hk3)
      rw [hte] at hl'
      have hconv := run_bytes_string (P := Try.prog) (dst := 9) Try.underlying23 Try.underlying5 Try.underlying9 _ c' hl'
      rw [hlen.out] at hconv
      go_wp2
      go_ret
      exact ⟨rfl, hb⟩

def textsL (l : List (List UInt8)) (n : Nat) : List (List UInt8) := (l.take n).map textL
theorem textsL_snoc (xs : List (Option Addr × Nat × List UInt8)) (n k : Nat) (h : k < xs.length) (h3 : k < n) : textsL ((xs.map (·.2.2)).take (k + 1)) n = textsL ((xs.map (·.2.2)).take k) n ++ [textL xs[k].2.2] := by
  simp only [textsL, List.take_take]
  rw [Nat.min_eq_right (by omega), Nat.min_eq_right (by omega), take_snoc' _ k (by simpa using h), List.map_append]; simp
theorem textsL_end (l : List (List UInt8)) (n k : Nat) (h : ¬ k < l.length ∨ ¬ k < n) (hk : k ≤ l.length) (hk3 : k ≤ n) : textsL (l.take k) n = textsL l n ∧ (textsL l n).length = k := by
  simp only [textsL, List.take_take]
  rw [Nat.min_eq_right (by omega)]
  rcases h with h | h
  · rw [List.take_of_length_le (by omega), List.take_of_length_le (by omega)]; simp; omega
  · rw [show k = n by omega]; simp; omega
/-- it returns a new row of cells; nothing that was there has turned -/
def RetRow (ty : TypeId) (w : World) (xs : List Value) (en : Ending) (w' : World) : Prop := ∃ v, en = .returned v ∧ w'.ownsRow w.heap.size ty 1 v xs.length xs ∧ Below w.heap.size w w'

set_option maxHeartbeats 400000 in
theorem texts (A : Option Addr) (c : Nat) (xs : List (Option Addr × Nat × List UInt8)) (n : Nat) (w : World) (B : Nat) (hB : B ≤ w.heap.size) (hl : Lies w B A (xs.map slV)) (ha : LiesAll w B xs) (hm : xs.length ≤ maxLen) (hn : n ≤ 100) :
    Calls Try.prog 12 #[.slice A xs.length c, .int .i64 n] w (RetRow 9 w ((textsL (xs.map (·.2.2)) n).map sV)) := by
  unfold maxLen at hm
  go_enter Try.func12, Try.ntmps12
  go_wp2
  go_loopw [5, 6] (fun v i wr => ∃ k : Nat, k ≤ xs.length ∧ k ≤ n ∧ i = .int .i64 k ∧ wr.ownsRow w.heap.size 9 1 v k ((textsL ((xs.map (·.2.2)).take k) n).map sV) ∧ Below w.heap.size w wr) (fun _ i _ => n - (intOf i).toNat)
  case atStart => 
    exact ⟨0, by omega, by omega, rfl, by simpa [textsL] using World.ownsRow_lit w #[] 0 (Nat.le_refl _) (by simp [maxLen]) rfl, (Below.refl _ _).alloc (Nat.le_refl _) _⟩
  case round =>
    obtain ⟨k, hk, hk3, rfl, hown, hb⟩ := hrel
    have hend : k < xs.length ∧ k < n ∨ ¬ k < xs.length ∨ ¬ k < n := by omega
    rcases hend with ⟨hlt, hlt3⟩ | hend
    · obtain ⟨b, o, rfl, hbB, hcell⟩ := (hl.below (hb.mono hB)).at_ (k := k) (by simpa using hlt)
      simp only [List.getElem_map, slV] at hcell
      obtain ⟨ha1, ha2⟩ := ha xs[k] (List.getElem_mem _)
      have hsn := Lib.hid (textsL_snoc xs n k hlt hlt3)
      go_wp2_with (first
        | (go_at_call 20; refine (text _ _ _ _ B (by have := hb.size; omega) (ha1.below (hb.mono hB)) ha2).mono ?_; rintro e w1 ⟨rfl, hb1⟩)
        | (at_builtin; refine wpList_app1 _ rfl _ _ 26 rfl w.heap.size 9 (.string ⟨#[]⟩) 1 16 Try.underlying26 ei9 rfl (by omega) _ k _ rfl (ownsRow_below hown hb1 (Nat.le_refl _)) _ rfl rfl (one1 rfl) (by omega) (by omega) (by have := hb.size; have := hb1.size; omega) ?_; intro v' w2 hown2 hg2 hb2 hat2))
      clear hown hcell
      go_roundw
      case rel => exact ⟨k + 1, by omega, by omega, by go_num, by rw [hsn.out, List.map_append, List.map_singleton]; exact hown2, (hb.trans (hb1.mono hb.size)).trans hb2⟩
      case measure => simp [intOf]; omega
    · obtain ⟨he1, he2⟩ := textsL_end (xs.map (·.2.2)) n k (by simpa using hend) (by simpa using hk) hk3
      rw [he1] at hown
      have he2 := Lib.hid he2
      rcases hend with hend | hend
      all_goals
        go_wp2
        all_goals go_ret
        all_goals exact ⟨_, rfl, by rw [List.length_map, he2.out]; exact hown, hb⟩

def entryL (l : List UInt8) : List UInt8 := sumL l ++ 32 :: (l ++ [10])
theorem entryL_length (l : List UInt8) : (entryL l).length = l.length + 10 := by simp [entryL, sumL_length]; omega
theorem entry_eq (l : List UInt8) : ByteArray.mk (sumL l).toArray ++ ByteArray.mk #[32] ++ ByteArray.mk l.toArray ++ ByteArray.mk #[10] = ByteArray.mk (entryL l).toArray := by
  apply ByteArray.ext; simp [entryL]
set_option maxHeartbeats 400000 in
theorem entry (l : List UInt8) (w : World) (hs : l.length ≤ 1000000) :
    Calls Try.prog 21 #[.string ⟨l.toArray⟩] w fun e w' => e = .returned (.string ⟨(entryL l).toArray⟩) ∧ w = w' := by
  have hsz := str_size l
  have h8 := sumL_length l

  go_enter Try.func21, Try.ntmps21
  go_wp2_with (go_at_call 27; refine (refSum ⟨l.toArray⟩ _ (by simp [str_size, maxLen]; omega)).mono ?_; rintro e w' ⟨rfl, rfl⟩)
  go_ret
  exact ⟨ret_str (entry_eq l), rfl⟩

end Go.Proofs.Ytekgcedbejafeaa
