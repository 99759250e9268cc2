/-
  Walks of the reference's Strings, Whole and Bytes.
-/
import Derived.Test.YtekgcedbejafeaaB
namespace Go.Proofs.Ytekgcedbejafeaa
open Go.RowKit

theorem take_all_eq {α : Type} {xs ys : List α} {k : Nat} (h : xs.take k = ys.take k) (h1 : xs.length ≤ k) (h2 : ys.length ≤ k) : xs = ys := by
  rwa [List.take_of_length_le h1, List.take_of_length_le h2] at h
theorem eq_no {xs ys : List (List UInt8)} {k : Nat} (h1 : k < xs.length) (h2 : k < ys.length) (h : xs[k] ≠ ys[k]) : false = decide (xs = ys) := by
  symm; rw [decide_eq_false_iff_not]; rintro rfl; exact h rfl

set_option maxHeartbeats 400000 in
theorem strings (A A' : Option Addr) (c c' : Nat) (xs ys : List (List UInt8)) (w : World) (B : Nat) (h1 : Lies w B A (xs.map sV)) (h2 : Lies w B A' (ys.map sV)) (hx : xs.length ≤ maxLen) :
    Calls Try.prog 17 #[.slice A xs.length c, .slice A' ys.length c'] w fun e w' => e = .returned (.bool (decide (xs = ys))) ∧ ∃ n, w' = w.drewN n := by
  unfold maxLen at hx
  by_cases hl : xs.length = ys.length
  · have hln : ((xs.length : Int) != ys.length) = false := by simp [hl]
    have HL := Lib.hid hl
    have hl1 : xs.length ≤ ys.length := by omega
    have hl2 : ys.length ≤ xs.length := by omega
    clear hl
    go_enter Try.func17, Try.ntmps17
    go_wp2
    go_loopw [5] (fun i wr => ∃ k : Nat, k ≤ xs.length ∧ i = .int .i64 k ∧ xs.take k = ys.take k ∧ ∃ n, wr = w.drewN n) (fun i _ => xs.length - (intOf i).toNat)
    case atStart => exact ⟨0, by omega, rfl, rfl, 0, rfl⟩
    case round =>
      obtain ⟨k, hk, rfl, htk, nd, rfl⟩ := hrel
      have HT := Lib.hid htk
      clear htk
      by_cases hlt : k < xs.length
      · have hlt' : k < ys.length := by omega
        obtain ⟨b, o, rfl, hbB, hcell⟩ := h1.at_ (k := k) (by simpa using hlt)
        obtain ⟨b', o', rfl, hbB', hcell'⟩ := h2.at_ (k := k) (by simpa using hlt')
        simp only [List.getElem_map, sV] at hcell hcell'
        by_cases he : xs[k] = ys[k]
        · have hne : (!xs[k] == ys[k]) = false := by simp [he]
          have HE := Lib.hid he
          clear he
          go_wp2
          go_quiet (fail)
          rename_i nq
          go_wp2
          go_roundw
          case rel => exact ⟨k + 1, by omega, by go_num, by rw [take_snoc' _ k hlt, take_snoc' _ k hlt', HT.out, HE.out], _, rfl⟩
          case measure => simp [intOf]; omega
        · have hne : (!xs[k] == ys[k]) = true := by simp [he]
          have HE := Lib.hid he
          clear he
          go_wp2
          go_quiet (fail)
          rename_i nq
          go_wp2
          go_ret
          exact ⟨ret_bool (eq_no hlt hlt' HE.out), nd + nq, World.drewN_drewN ..⟩
      · go_wp2
        go_ret
        refine ⟨ret_bool ?_, nd, rfl⟩
        symm; rw [decide_eq_true_eq]
        exact take_all_eq HT.out (by omega) (by omega)
  · have hln : ((xs.length : Int) != ys.length) = true := by simp; omega
    have HL := Lib.hid hl
    clear hl
    go_enter Try.func17, Try.ntmps17
    go_wp2
    go_ret
    refine ⟨ret_bool ?_, 0, rfl⟩
    symm; rw [decide_eq_false_iff_not]; rintro rfl; exact HL.out rfl

/-- the lines whose entries end by n, and their bytes -/
def whole : List (List UInt8) → Nat → Nat → Nat → Nat × Nat
  | [], _, b, c => (c, b)
  | l :: r, n, b, c => if n < b + l.length + 10 then (c, b) else whole r n (b + l.length + 10) (c + 1)
theorem whole_step (xs : List (List UInt8)) (n b k : Nat) (h : k < xs.length) : whole (xs.drop k) n b k = if n < b + xs[k].length + 10 then (k, b) else whole (xs.drop (k + 1)) n (b + xs[k].length + 10) (k + 1) := by
  rw [List.drop_eq_getElem_cons h]; rfl
theorem ret_ints {a b c d : Nat} (h : (a, b) = (c, d)) : Ending.returned (.tuple #[.int .i64 a, .int .i64 b]) = .returned (.tuple #[.int .i64 c, .int .i64 d]) := by
  simp only [Prod.mk.injEq] at h; rw [h.1, h.2]

set_option maxHeartbeats 400000 in
theorem wholeW (A : Option Addr) (c : Nat) (xs : List (List UInt8)) (n : Nat) (w : World) (B : Nat) (h1 : Lies w B A (xs.map sV)) (hx : xs.length ≤ 1000) (hb : ∀ x ∈ xs, x.length ≤ 1000) (hn : n ≤ 10000000) :
    Calls Try.prog 19 #[.slice A xs.length c, .int .i64 n] w fun e w' => e = .returned (.tuple #[.int .i64 (whole xs n 0 0).1, .int .i64 (whole xs n 0 0).2]) ∧ w = w' := by
  go_enter Try.func19, Try.ntmps19
  go_wp2
  go_loop [6, 7] (fun s i => ∃ k b : Nat, k ≤ xs.length ∧ i = .int .i64 k ∧ s = .int .i64 b ∧ b ≤ k * 1010 ∧ whole (xs.drop k) n b k = whole xs n 0 0) (fun _ i => xs.length - (intOf i).toNat)
  case atStart => exact ⟨0, 0, by omega, rfl, rfl, by omega, rfl⟩
  case round =>
    obtain ⟨k, b, hk, rfl, rfl, hbk, hw⟩ := hrel
    have HW := Lib.hid hw
    clear hw
    by_cases hlt : k < xs.length
    · obtain ⟨g, o, rfl, hbB, hcell⟩ := h1.at_ (k := k) (by simpa using hlt)
      simp only [List.getElem_map, sV] at hcell
      have hlen := hb xs[k] (List.getElem_mem _)
      have hsz := str_size xs[k]
      have hst := Lib.hid (whole_step xs n b k hlt)
      by_cases ht : n < b + xs[k].length + 10
      · go_wp2
        go_ret2
        exact ⟨ret_ints (by rw [← HW.out, hst.out, if_pos ht]), rfl⟩
      · go_wp2
        go_round
        case rel => exact ⟨k + 1, b + xs[k].length + 10, by omega, by go_num, by simp; omega, by omega, by rw [← HW.out, hst.out, if_neg ht]⟩
        case measure => simp [intOf]; omega
    · go_wp2
      go_ret2
      refine ⟨ret_ints ?_, rfl⟩
      rw [← HW.out, List.drop_of_length_le (by omega)]
      have : k = xs.length := by omega
      subst this
      rfl

end Go.Proofs.Ytekgcedbejafeaa
