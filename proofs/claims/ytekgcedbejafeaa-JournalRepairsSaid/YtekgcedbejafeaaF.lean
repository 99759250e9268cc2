/-
  Walks of the reference's Read and Put.
-/
import Derived.Test.YtekgcedbejafeaaE
namespace Go.Proofs.Ytekgcedbejafeaa
open Go.RowKit

def readR : Nat → List UInt8 → List (List UInt8)
  | 0, _ => []
  | f + 1, s => if (firstS s).2 then (firstS s).1 :: readR f (s.drop ((firstS s).1.length + 10)) else []
def bytesOf (ls : List (List UInt8)) : Nat := (ls.map fun l => l.length + 10).sum
theorem firstS_len {s : List UInt8} (h : (firstS s).2 = true) : (firstS s).1.length + 10 ≤ s.length ∧ (firstS s).1.length ≤ 200 := by
  unfold firstS at h ⊢
  split at h
  · rename_i hc
    rw [if_pos hc]
    simp only [Bool.and_eq_true, lineB, decide_eq_true_eq] at h
    refine ⟨?_, h.1.2⟩
    simp [lineOf]; omega
  · simp at h
theorem readR_yes {f : Nat} {s : List UInt8} (h : (firstS s).2 = true) : readR (f + 1) s = (firstS s).1 :: readR f (s.drop ((firstS s).1.length + 10)) := by rw [readR, if_pos h]
theorem readR_no {f : Nat} {s : List UInt8} (h : (firstS s).2 = false) : readR f s = [] := by
  cases f with
  | zero => rfl
  | succ f => rw [readR, if_neg (by simp [h])]
theorem bytesOf_snoc (ls : List (List UInt8)) (l : List UInt8) : bytesOf (ls ++ [l]) = bytesOf ls + (l.length + 10) := by simp [bytesOf]
theorem bytesOf_ge (ls : List (List UInt8)) : 10 * ls.length ≤ bytesOf ls := by
  induction ls with
  | nil => simp [bytesOf]
  | cons x r ih => simp only [bytesOf, List.map_cons, List.sum_cons, List.length_cons] at *; omega
/-- it returns a new row of texts and a number -/
def RetLines (w : World) (ls : List (List UInt8)) (n : Nat) (en : Ending) (w' : World) : Prop :=
  ∃ v, en = .returned (.tuple #[v, .int .i64 n]) ∧ w'.ownsRow w.heap.size 9 1 v ls.length (ls.map sV) ∧ Below w.heap.size w w'
theorem sizeOf5 (w : World) : (sizeOf 5).run Try.prog w = .ok 1 w := by kernel_rfl

set_option maxHeartbeats 400000 in
theorem refRead (A : Option Addr) (c : Nat) (l : List UInt8) (w : World) (B : Nat) (hB : B ≤ w.heap.size) (h1 : Lies w B A (l.map bV)) (hl : l.length ≤ 100000) (hc : l.length ≤ c) :
    Calls Try.prog 16 #[.slice A l.length c] w (RetLines w (readR (l.length + 1) l) (bytesOf (readR (l.length + 1) l))) := by
  go_enter Try.func16, Try.ntmps16
  go_wp2
  go_loopw [4, 5] (fun v i wr => ∃ (acc : List (List UInt8)), bytesOf acc ≤ l.length ∧ i = .int .i64 (bytesOf acc) ∧ acc ++ readR (l.length + 1 - acc.length) (l.drop (bytesOf acc)) = readR (l.length + 1) l ∧
      wr.ownsRow w.heap.size 9 1 v acc.length (acc.map sV) ∧ Below w.heap.size w wr) (fun _ i _ => l.length - (intOf i).toNat)
  case atStart => exact ⟨[], by simp [bytesOf], rfl, rfl, World.ownsRow_lit _ _ _ (Nat.le_refl _) (by simp [maxLen]) rfl, (Below.refl _ _).alloc (Nat.le_refl _) _⟩
  case round =>
    obtain ⟨acc, hk, rfl, hacc, hown, hb⟩ := hrel
    have HA := Lib.hid hacc
    clear hacc
    have hge := bytesOf_ge acc
    generalize hat : bytesOf acc = t at *
    have HT := Lib.hid hat
    clear hat
    have hcut := fun w => run_cut (P := Try.prog) w Try.underlying23 (by kernel_rfl) sizeOf5 A l.length c t hk
    have hlie := (h1.below (hb.mono hB)).cut (k := t) (cap := c) (by simpa using hc)
    rw [← List.map_drop] at hlie
    have hlen : (l.drop t).length = l.length - t := List.length_drop
    generalize hr : l.drop t = r at *
    have HR := Lib.hid hr
    clear hr
    have hcv := run_bytes_string (P := Try.prog) (dst := 9) Try.underlying23 Try.underlying5 Try.underlying9 r (c - t) hlie
    rw [hlen] at hcv
    have hlen' : r.length ≤ 1000000 := by omega
    cases hf : (firstS r).2 with
    | true =>
      obtain ⟨hf1, hf2⟩ := firstS_len hf
      have HY := Lib.hid (readR_yes (f := l.length + 1 - (acc.length + 1)) hf)
      have hfst : firstS r = ((firstS r).1, true) := by rw [← hf]
      generalize (firstS r).1 = ln at *
      have HF := Lib.hid hf
      have HFS := Lib.hid hfst
      clear hf hfst
      have hsz := str_size ln
      go_wp2_with (first
        | (go_at_call 26; refine (first _ _ hlen').mono ?_; rw [HFS.out]; rintro e w1 ⟨rfl, nd, rfl⟩; have hown' := ownsRow_drewN hown nd)
        | (at_builtin; refine wpList_app1 _ rfl _ _ 26 rfl w.heap.size 9 (.string ⟨#[]⟩) 1 16 Try.underlying26 ei9 rfl (by omega) _ acc.length _ rfl hown' _ rfl rfl (one1 rfl) (by omega) (by omega) (by have := hb.size; simpa using this) ?_; intro v' w2 hown2 hg2 hb2 hat2))
      go_roundw
      case rel =>
        refine ⟨acc ++ [ln], ?_, ?_, ?_, ?_, ((hb.trans (below_drewN _ nd _)).trans hb2)⟩
        · rw [bytesOf_snoc, HT.out]; omega
        · rw [bytesOf_snoc, HT.out]; simp
        · rw [← HA.out, show l.length + 1 - acc.length = (l.length + 1 - (acc.length + 1)) + 1 by omega, HY.out, bytesOf_snoc, HT.out, ← HR.out, List.drop_drop, List.length_append]
          simp
        · rw [List.length_append, List.map_append]; exact hown2
      case measure => simp [intOf]; omega
    | false =>
      have HF := Lib.hid hf
      have HY := Lib.hid (readR_no (f := l.length + 1 - acc.length) hf)
      have hfst : firstS r = ((firstS r).1, false) := by rw [← hf]
      have HFS := Lib.hid hfst
      generalize (firstS r).1 = ln at *
      clear hf hfst
      have hfin := Lib.hid (show readR (l.length + 1) l = acc by rw [← HA.out, HY.out, List.append_nil])
      go_wp2_with (go_at_call 26; refine (first _ _ hlen').mono ?_; rw [HFS.out]; rintro e w1 ⟨rfl, nd, rfl⟩)
      go_ret2
      rw [hfin.out, HT.out]
      exact ⟨_, rfl, ownsRow_drewN hown nd, hb.trans (below_drewN _ nd _)⟩

end Go.Proofs.Ytekgcedbejafeaa
