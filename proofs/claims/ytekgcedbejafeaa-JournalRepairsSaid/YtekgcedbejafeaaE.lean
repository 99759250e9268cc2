/-
  Walks of the reference's first, Read and Put.
-/
import Derived.Test.YtekgcedbejafeaaD
namespace Go.Proofs.Ytekgcedbejafeaa
open Go.RowKit

def lineOf (s : List UInt8) (i : Nat) : List UInt8 := (s.take i).drop 9
def firstS (s : List UInt8) : List UInt8 × Bool :=
  if s.idxOf 10 < s.length ∧ s.idxOf 10 ≤ 209 ∧ 9 ≤ s.idxOf 10 then
    (lineOf s (s.idxOf 10), lineB (lineOf s (s.idxOf 10)) && (entryL (lineOf s (s.idxOf 10)) == s.take (s.idxOf 10 + 1)))
  else ([], false)

theorem idx_at {s : List UInt8} {k : Nat} (hk : k < s.length) (h : s[k] = 10) (h2 : ∀ c ∈ s.take k, c ≠ 10) : s.idxOf 10 = k := by
  have e : s = s.take k ++ 10 :: s.drop (k + 1) := by
    rw [← h, ← List.drop_eq_getElem_cons hk, List.take_append_drop]
  rw [e, List.idxOf_append, if_neg (fun hm => h2 _ hm rfl)]
  simp; omega
theorem idx_ge {s : List UInt8} {k : Nat} (h2 : ∀ c ∈ s.take k, c ≠ 10) (hk : k ≤ s.length) : k ≤ s.idxOf 10 := by
  rcases Nat.lt_or_ge (s.idxOf 10) k with h | h
  · exfalso
    have hl : s.idxOf 10 < s.length := by omega
    have := List.getElem_idxOf hl
    refine h2 _ ?_ this
    rw [List.mem_take_iff_getElem]
    exact ⟨s.idxOf 10, by omega, rfl⟩
  · exact h
theorem mem_take_succ {s : List UInt8} {k : Nat} (hk : k < s.length) (h : s[k] ≠ 10) (h2 : ∀ c ∈ s.take k, c ≠ 10) : ∀ c ∈ s.take (k + 1), c ≠ 10 := by
  intro c hc
  rw [take_snoc' s k hk, List.mem_append, List.mem_singleton] at hc
  rcases hc with hc | rfl
  · exact h2 c hc
  · exact h
theorem cut_eq (s : List UInt8) (i : Nat) (_h : i ≤ s.length) : (ByteArray.mk s.toArray).extract 9 i = ⟨(lineOf s i).toArray⟩ := by
  apply ByteArray.ext; apply Array.ext'; simp [lineOf, List.drop_take]
theorem cut_eq0 (s : List UInt8) (i : Nat) : (ByteArray.mk s.toArray).extract 0 i = ⟨(s.take i).toArray⟩ := by
  apply ByteArray.ext; apply Array.ext'; simp
theorem refLineB (l : List UInt8) (b : Bool) (w : World) (hb : lineB l = b) (hs : l.length ≤ 1000000) :
    Calls Try.prog 24 #[.string ⟨l.toArray⟩] w fun e w' => e = .returned (.bool b) ∧ w = w' := by
  subst hb
  exact refLine ⟨l.toArray⟩ w (by rw [str_size]; simp only [maxLen]; omega)

theorem firstS_at {s : List UInt8} {k : Nat} (h : s.idxOf 10 = k) (h1 : k < s.length) (h2 : k ≤ 209) (h3 : 9 ≤ k) : firstS s = (lineOf s k, lineB (lineOf s k) && (entryL (lineOf s k) == s.take (k + 1))) := by
  subst h; rw [firstS, if_pos ⟨h1, h2, h3⟩]
def RetSB (w : World) (p : List UInt8 × Bool) (en : Ending) (w' : World) : Prop := en = .returned (.tuple #[.string ⟨p.1.toArray⟩, .bool p.2]) ∧ ∃ n, w' = w.drewN n

set_option maxHeartbeats 400000 in
theorem first (s : List UInt8) (w : World) (hs : s.length ≤ 1000000) :
    Calls Try.prog 26 #[.string ⟨s.toArray⟩] w (RetSB w (firstS s)) := by
  have hsz := str_size s
  go_enter Try.func26, Try.ntmps26
  go_wp2
  go_loop [4] (fun i => ∃ k : Nat, k ≤ s.length ∧ k ≤ 210 ∧ i = .int .i64 k ∧ ∀ c ∈ s.take k, c ≠ 10) (fun i => 210 - (intOf i).toNat)
  case atStart => exact ⟨0, by omega, by omega, rfl, by simp⟩
  case round =>
    obtain ⟨k, hk, hk2, rfl, hno⟩ := hrel
    have HN := Lib.hid hno
    clear hno
    have hend : k < s.length ∧ k ≤ 209 ∨ ¬ k < s.length ∨ ¬ k ≤ 209 := by omega
    rcases hend with ⟨hlt, hlt3⟩ | hend
    · have hget : (ByteArray.mk s.toArray)[k] = s[k] := rfl
      by_cases h10 : s[k] = 10
      · have h10' : ((s[k].toNat : Int) == 10) = true := by rw [h10]; rfl
        have hidx := Lib.hid (idx_at hlt h10 HN.out)
        clear h10
        by_cases h9 : k < 9
        · go_wp2
          go_ret2
          refine ⟨?_, 0, rfl⟩
          rw [firstS, if_neg (by rw [hidx.out]; omega)]; rfl
        · have hce := cut_eq s k (by omega)
          have hce0 := cut_eq0 s (k + 1)
          have hll : (lineOf s k).length ≤ 1000000 := by simp [lineOf]; omega
          have hfs := firstS_at hidx.out hlt hlt3 (by omega)
          have hsz2 := str_size (lineOf s k)
          generalize lineOf s k = ln at *
          cases hb : lineB ln with
          | true =>
            have HB := Lib.hid hb
            clear hb
            cases he : (entryL ln == s.take (k + 1)) with
            | true =>
              have HF := Lib.hid (hfs.trans (by rw [HB.out, he]))
              clear hfs
              go_wp2
              go_quiet (first | (go_at_call 24; exact qL (refLineB _ _ _ HB.out (by omega))) | (go_at_call 21; exact qL (entry _ _ (by omega))))
              go_wp2
              go_ret2
              exact ⟨by rw [HF.out]; rfl, _, rfl⟩
            | false =>
              have HF := Lib.hid (hfs.trans (by rw [HB.out, he]))
              clear hfs
              go_wp2
              go_quiet (first | (go_at_call 24; exact qL (refLineB _ _ _ HB.out (by omega))) | (go_at_call 21; exact qL (entry _ _ (by omega))))
              go_wp2
              go_ret2
              exact ⟨by rw [HF.out]; rfl, _, rfl⟩
          | false =>
            have HB := Lib.hid hb
            clear hb
            have HF := Lib.hid (hfs.trans (by rw [HB.out]))
            clear hfs
            go_wp2
            go_quiet (first | (go_at_call 24; exact qL (refLineB _ _ _ HB.out (by omega))) | (go_at_call 21; exact qL (entry _ _ (by omega))))
            go_wp2
            go_ret2
            exact ⟨by rw [HF.out]; rfl, _, rfl⟩
      · have h10' : ((s[k].toNat : Int) == 10) = false := by
          rw [beq_eq_false_iff_ne]; intro e; apply h10; apply UInt8.toNat_inj.1; simp; omega
        have hn := Lib.hid (mem_take_succ hlt h10 HN.out)
        clear h10
        go_wp2
        go_round
        case rel => exact ⟨k + 1, by omega, by omega, by go_num, hn.out⟩
        case measure => simp [intOf]; omega
    · have hge := idx_ge HN.out hk
      have hfin := Lib.hid (show firstS s = ([], false) by rw [firstS, if_neg (by omega)])
      rcases hend with hend | hend
      all_goals
        go_wp2
        all_goals go_ret2
        all_goals exact ⟨by rw [hfin.out]; rfl, 0, rfl⟩

end Go.Proofs.Ytekgcedbejafeaa
