/-
  Walk of sanity: the fixed examples.
-/
import Derived.Test.YtekgcedbejafeaaJ
import Derived.Lib.SlBytesConst
namespace Go.Proofs.Ytekgcedbejafeaa
open Go.RowKit

theorem putT (A : Option Addr) (n c : Nat) (l s : List UInt8) (w : World) (hn : l.length = n) (h1 : Lies w w.heap.size A (l.map bV)) (hl : n ≤ 100000) (hc : n ≤ c) (hs : s.length ≤ 100000) (hb : lineB s = true) :
    Calls Try.prog 13 #[.slice A n c, .string ⟨s.toArray⟩] w (RetPut w (l ++ entryL s) 0) := by
  subst hn
  have := put A c l s w _ (Nat.le_refl _) h1 hl hc hs
  rwa [if_pos hb] at this
theorem putF (A : Option Addr) (n c : Nat) (l s : List UInt8) (w : World) (hn : l.length = n) (h1 : Lies w w.heap.size A (l.map bV)) (hl : n ≤ 100000) (hc : n ≤ c) (hs : s.length ≤ 100000) (hb : lineB s = false) :
    Calls Try.prog 13 #[.slice A n c, .string ⟨s.toArray⟩] w (RetPut w [] 3) := by
  subst hn
  have := put A c l s w _ (Nat.le_refl _) h1 hl hc hs
  rwa [if_neg (by simp [hb])] at this
/-- it returns the lines and the number of bytes that are read of l -/
def RetRead (w : World) (ls : List (List UInt8)) (k : Nat) (en : Ending) (w' : World) : Prop :=
  ∃ A n c, en = .returned (.tuple #[.slice A n c, .int .i64 k]) ∧ ls.length = n ∧ Lies w' w'.heap.size A (ls.map sV) ∧ n ≤ c ∧ Below w.heap.size w w'
theorem readC (A : Option Addr) (n c : Nat) (l : List UInt8) (w : World) (hn : l.length = n) (h1 : Lies w w.heap.size A (l.map bV)) (hA2 : A = none → c = 0) (hl : n ≤ 100000) (hc : n ≤ c)
    (ls : List (List UInt8)) (k : Nat) (hr : readL l = ls) (hk : bytesOf ls = k) :
    Calls Try.prog 15 #[.slice A n c] w (RetRead w ls k) := by
  subst hn
  refine (read A c l w _ (Nat.le_refl _) h1 hA2 hl hc).mono ?_
  rintro e w' ⟨v, rfl, hown, hb⟩
  change w'.ownsRow w.heap.size 9 1 v (readL l).length ((readL l).map sV) at hown
  rw [hr] at hown
  obtain ⟨A', c', rfl, h2, _, _, h3⟩ := own_open hown
  refine ⟨A', _, c', ?_, rfl, h2, h3, hb⟩
  change _ = _
  rw [show readP (l.length + 1) l = ls from hr, hk]
/-- it returns a slice of bytes -/
def RetBy (w : World) (l : List UInt8) (en : Ending) (w' : World) : Prop :=
  ∃ A n c, en = .returned (.slice A n c) ∧ l.length = n ∧ Lies w' w'.heap.size A (l.map bV) ∧ (A = none → c = 0) ∧ n ≤ c ∧ Below w.heap.size w w'
theorem repairC (A : Option Addr) (n c : Nat) (l : List UInt8) (w : World) (hn : l.length = n) (h1 : Lies w w.heap.size A (l.map bV)) (hA2 : A = none → c = 0) (hl : n ≤ 100000) (hc : n ≤ c)
    (l2 : List UInt8) (hr : bytesL (readL l) = l2) : Calls Try.prog 18 #[.slice A n c] w (RetBy w l2) := by
  subst hn
  subst hr
  refine (repair A c l w _ (Nat.le_refl _) h1 hA2 hl hc).mono ?_
  rintro e w' ⟨v, rfl, hown, hb⟩
  obtain ⟨A', c', rfl, h2, h3, h4, h5⟩ := own_open hown
  exact ⟨A', _, c', rfl, rfl, h2, h4, h5, hb⟩
theorem stringsC (A A' : Option Addr) (n m c c' : Nat) (xs ys : List (List UInt8)) (w : World) (h1 : Lies w w.heap.size A (xs.map sV)) (h2 : Lies w w.heap.size A' (ys.map sV)) (hx : n ≤ maxLen) (hn : xs.length = n) (hm : ys.length = m) (b : Bool) (he : decide (xs = ys) = b) :
    Calls Try.prog 17 #[.slice A n c, .slice A' m c'] w fun e w' => e = .returned (.bool b) ∧ Below w.heap.size w w' := by
  subst hn hm he
  exact (strings A A' c c' xs ys w _ h1 h2 hx).mono fun _ _ ⟨h, h'⟩ => ⟨h, below_draws h'⟩

def L1 : List UInt8 := [48, 48, 54, 50, 48, 48, 54, 50, 32, 97, 10]
def L2 : List UInt8 := L1 ++ [48, 48, 48, 48, 48, 48, 48, 49, 32, 10]
def L3 : List UInt8 := L1 ++ [48, 48, 54, 50, 48, 48, 54, 50, 32, 98, 10]
def L4 : List UInt8 := [48, 48, 54, 50, 48, 48, 54, 50, 32, 97]
def L5 : List UInt8 := L1 ++ [120]
theorem e1 : [] ++ entryL [97] = L1 := by decide +kernel
theorem e2 : L1 ++ entryL [] = L2 := by decide +kernel
theorem r2 : readL L2 = [[97], []] := by decide +kernel
theorem r3 : readL L3 = [[97]] := by decide +kernel
theorem r4 : readL L4 = [] := by decide +kernel
theorem r5 : bytesL (readL L5) = L1 := by decide +kernel

set_option maxHeartbeats 1000000 in
theorem sanity (w : World) : Calls Try.prog 10 #[] w fun e w' => e = .returned (.bool true) ∧ Below w.heap.size w w' := by
  have kc := fun (w : World) (C : Array Value) (n c : Nat) => Lib.run_convert_bytes_const (P := Try.prog) w 23 5 C n c Try.underlying23 Try.underlying5
  have l3 : ∀ w : World, Lies _ _ _ (L3.map bV) := fun w => lies_new w #[.int .u8 48, .int .u8 48, .int .u8 54, .int .u8 50, .int .u8 48, .int .u8 48, .int .u8 54, .int .u8 50, .int .u8 32, .int .u8 97, .int .u8 10, .int .u8 48, .int .u8 48, .int .u8 54, .int .u8 50, .int .u8 48, .int .u8 48, .int .u8 54, .int .u8 50, .int .u8 32, .int .u8 98, .int .u8 10] 5 (22, 23) (L3.map bV) rfl
  have l4 : ∀ w : World, Lies _ _ _ (L4.map bV) := fun w => lies_new w #[.int .u8 48, .int .u8 48, .int .u8 54, .int .u8 50, .int .u8 48, .int .u8 48, .int .u8 54, .int .u8 50, .int .u8 32, .int .u8 97] 5 (10, 11) (L4.map bV) rfl
  have l5 : ∀ w : World, Lies _ _ _ (L5.map bV) := fun w => lies_new w #[.int .u8 48, .int .u8 48, .int .u8 54, .int .u8 50, .int .u8 48, .int .u8 48, .int .u8 54, .int .u8 50, .int .u8 32, .int .u8 97, .int .u8 10, .int .u8 120] 5 (12, 13) (L5.map bV) rfl
  have hs1 := fun w : World => lies_new w #[.string ⟨#[97]⟩, .string ⟨#[]⟩] 9 (0, 0) ([[97], []].map sV) rfl
  have hs2 := fun w : World => lies_new w #[.string ⟨#[97]⟩] 9 (0, 0) ([[97]].map sV) rfl
  have L3' := Lib.hid l3
  have L4' := Lib.hid l4
  have L5' := Lib.hid l5
  have S1' := Lib.hid hs1
  have S2' := Lib.hid hs2
  clear l3 l4 l5 hs1 hs2
  go_enter Try.func10, Try.ntmps10
  go_wp2_with fail
  refine (putT none 0 0 [] [97] _ rfl (Lies.nil _ _ _) (by decide) (by decide) (by decide) (by decide)).mono ?_
  rintro e w1 ⟨v1, rfl, hown1, hb1⟩
  rw [e1] at hown1
  obtain ⟨A1, c1, rfl, hl1, hA1, hN1, hc1⟩ := own_open hown1
  rw [show L1.length = 11 by rfl] at *
  have hbw := hb1
  have H := (Has.nil w1).cons hl1
  clear hown1 hb1 hl1 hA1 hN1
  go_wp2_with fail
  refine (putT A1 11 c1 L1 [] _ rfl (H.get 0 rfl) (by decide) hc1 (by decide) (by decide)).mono ?_
  rintro e w2 ⟨v2, rfl, hown2, hb2⟩
  rw [e2] at hown2
  obtain ⟨A2, c2, rfl, hl2, hA2, hN2, hc2⟩ := own_open hown2
  rw [show L2.length = 21 by rfl] at *
  have hbw := below_tr hbw hb2
  have H := (H.step hb2).cons hl2
  clear hown2 hb2 hl2 hA2 hN2
  go_wp2_with fail
  refine (putF A1 11 c1 L1 [97, 10] _ rfl (H.get 1 rfl) (by decide) hc1 (by decide) (by decide)).mono ?_
  rintro e w3 ⟨v3, rfl, hown3, hb3⟩
  have hbw := below_tr hbw hb3
  have H := H.step hb3
  clear hown3 hb3
  go_wp2_with (at_builtin; go_must (refine wpList_appN _ rfl (.tmp 28) (.tmp 29) 23 rfl w3.heap.size 5 (.int .u8 0) 1 1 Try.underlying23 ei5 rfl (by omega) _ 0 _ rfl (World.ownsRow_lit w3 #[] 0 (Nat.le_refl _) (by simp [maxLen]) rfl) A2 21 c2 _ (L2.map bV) rfl (by simp; rfl) ((H.step (below_al _ _)).get 0 rfl) (map_bV_one _) (by decide) (by decide) (by simp) ?_; intro v4 w4 hown4 hg4 hb4 hat4))
  simp only [Nat.zero_add, List.nil_append] at hown4
  obtain ⟨A4, c4, rfl, hl4, hA4, hN4, hc4⟩ := own_open hown4
  have hb4 := (below_al w3 _).trans hb4
  have hbw := below_tr hbw hb4
  have H := (H.step hb4).cons hl4
  clear hown4 hb4 hl4 hg4 hat4
  refine (readC A4 21 c4 L2 _ rfl (H.get 0 rfl) hN4 (by decide) hc4 _ 21 r2 (by decide)).mono ?_
  rintro e w5 ⟨A5, n5, c5, rfl, hn5, hl5, hc5, hb5⟩
  obtain rfl : n5 = 2 := hn5.symm
  have hbw := below_tr hbw hb5
  have H := (H.step hb5).cons hl5
  clear hA4 hN4 hb5 hl5
  go_wp2_with fail
  refine (readC (some ⟨w5.heap.size, 0, none⟩) 22 22 L3 _ rfl (L3'.out _) (by simp) (by decide) (by decide) _ 11 r3 (by decide)).mono ?_
  rintro e w6 ⟨A6, n6, c6, rfl, hn6, hl6, hc6, hb6⟩
  obtain rfl : n6 = 1 := hn6.symm
  have hb6 := below_a hb6
  have hbw := below_tr hbw hb6
  have H := (H.step hb6).cons hl6
  clear hb6 hl6
  go_wp2_with fail
  refine (readC (some ⟨w6.heap.size, 0, none⟩) 10 10 L4 _ rfl (L4'.out _) (by simp) (by decide) (by decide) _ 0 r4 (by decide)).mono ?_
  rintro e w7 ⟨A7, n7, c7, rfl, hn7, hl7, hc7, hb7⟩
  obtain rfl : n7 = 0 := hn7.symm
  have hb7 := below_a hb7
  have hbw := below_tr hbw hb7
  have H := H.step hb7
  clear hb7 hl7
  have hcv1 := run_bytes_string (P := Try.prog) (dst := 9) Try.underlying23 Try.underlying5 Try.underlying9 L1 c1 (H.get 4 rfl)
  have hcv2 := run_bytes_string (P := Try.prog) (dst := 9) Try.underlying23 Try.underlying5 Try.underlying9 L2 c2 (H.get 3 rfl)
  rw [show L1.length = 11 by rfl] at hcv1
  rw [show L2.length = 21 by rfl] at hcv2
  have q1 : (L1 == [48, 48, 54, 50, 48, 48, 54, 50, 32, 97, 10]) = true := by decide
  have q2 : (L2 == [48, 48, 54, 50, 48, 48, 54, 50, 32, 97, 10, 48, 48, 48, 48, 48, 48, 48, 49, 32, 10]) = true := by decide
  go_wp2_with fail
  clear hcv1 hcv2
  refine (stringsC A5 _ 2 2 c5 2 [[97], []] [[97], []] _ ((H.step (below_al _ _)).get 1 rfl) (S1'.out w7) (by simp [maxLen]) rfl rfl true (by decide)).mono ?_
  rintro e w8 ⟨rfl, hb8⟩
  have hb8 := below_a hb8
  have hbw := below_tr hbw hb8
  have H := H.step hb8
  clear hb8
  go_wp2_with fail
  refine (stringsC A6 _ 1 1 c6 1 [[97]] [[97]] _ ((H.step (below_al _ _)).get 0 rfl) (S2'.out w8) (by simp [maxLen]) rfl rfl true (by decide)).mono ?_
  rintro e w9 ⟨rfl, hb9⟩
  have hb9 := below_a hb9
  have hbw := below_tr hbw hb9
  clear H hb9
  go_wp2_with fail
  refine (repairC (some ⟨w9.heap.size, 0, none⟩) 12 12 L5 _ rfl (L5'.out _) (by simp) (by decide) (by decide) _ r5).mono ?_
  rintro e w10 ⟨A10, n10, c10, rfl, hn10, hl10, hN10, hc10, hb10⟩
  have hbw := below_tr hbw (below_a hb10)
  have hcv3 := run_bytes_string (P := Try.prog) (dst := 9) Try.underlying23 Try.underlying5 Try.underlying9 L1 c10 hl10
  rw [hn10] at hcv3
  clear hb10 hl10 hN10 kc hn10 L3' L4' L5' S1' S2'
  go_wp2
  go_ret
  exact ⟨rfl, hbw⟩

end Go.Proofs.Ytekgcedbejafeaa
