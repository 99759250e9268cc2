/-
  Walk of the law JournalMatchesReference.
-/
import Derived.Test.YtekgcedbejafeaaM
namespace Go.Proofs.Ytekgcedbejafeaa
open Go.RowKit

set_option maxHeartbeats 1000000 in
theorem match_big (A : Option Addr) (n c : Nat) (A2 : Option Addr) (n2 c2 : Nat) (s : List UInt8) (w : World) (hs : s.length ≤ maxLen) (h2 : n2 ≤ maxLen) (hbig : 60 < n2 ∨ 220 < s.length) :
    Calls Try.prog 3 #[.slice A n c, .slice A2 n2 c2, .string ⟨s.toArray⟩] w fun e w' => e = .returned (.bool true) ∧ Below w.heap.size w w' := by
  unfold maxLen at hs h2
  have hsz := str_size s
  rcases hbig with hbig | hbig
  · go_enter Try.func3, Try.ntmps3
    go_wp2_with (go_at_call 10; go_must (refine (sanity _).mono ?_; rintro e w1 ⟨rfl, hb1⟩))
    go_ret
    exact ⟨rfl, hb1⟩
  · by_cases h60 : 60 < n2
    all_goals
      go_enter Try.func3, Try.ntmps3
      go_wp2_with (go_at_call 10; go_must (refine (sanity _).mono ?_; rintro e w1 ⟨rfl, hb1⟩))
      go_ret
      exact ⟨rfl, hb1⟩

theorem readL_count (l : List UInt8) : (readL l).length ≤ l.length := by
  have h1 := (readL_take l).2
  have h2 := bytesOf_ge (readL l)
  omega
set_option maxHeartbeats 1000000 in
theorem match_small (A : Option Addr) (n c : Nat) (xs : List (Option Addr × Nat × List UInt8)) (A2 : Option Addr) (n2 c2 : Nat) (more s : List UInt8) (w : World)
    (hn : xs.length = n) (hl : Lies w w.heap.size A (xs.map slV)) (ha : LiesAll w w.heap.size xs) (hm : n ≤ maxLen)
    (hn2 : more.length = n2) (hl2 : Lies w w.heap.size A2 (more.map bV)) (hA2 : A2 = none → c2 = 0) (hc2 : n2 ≤ c2) (h60 : n2 ≤ 60) (hs : s.length ≤ 220) :
    Calls Try.prog 3 #[.slice A n c, .slice A2 n2 c2, .string ⟨s.toArray⟩] w fun e w' => e = .returned (.bool true) ∧ Below w.heap.size w w' := by
  have hsz := str_size s
  obtain ⟨hsh1, hsh2⟩ := textsL_short (xs.map (·.2.2)) 6
  generalize hls : textsL (xs.map (·.2.2)) 6 = ls at *
  have HLS := Lib.hid hls
  clear hls
  have hbl := bytesL_short ls hsh2
  have hbl : (bytesL ls).length ≤ 240 := by omega
  generalize hBL : bytesL ls = bl at *
  have HBL := Lib.hid hBL
  clear hBL
  have HN := Lib.hid hn
  have HN2 := Lib.hid hn2
  clear hn hn2
  have H := (Has.nil w).cons hl2
  have H := H.cons hl
  clear hl hl2
  go_enter Try.func3, Try.ntmps3
  go_wp2_with (go_at_call 10; go_must (refine (sanity _).mono ?_; rintro e w1 ⟨rfl, hb1⟩))
  have hbw := hb1
  have hbs := hb1
  have H := H.step hb1
  have ha1 := ha.step hb1
  have H1 := H
  have hown := World.ownsRow_lit (e := 5) (base := w1.heap.size) (size := 1) w1 #[] 0 (Nat.le_refl _) (by simp [maxLen]) rfl
  have H := H.step (below_al w1 (.cells #[] 5))
  have ha2 := ha1.step (below_al w1 (.cells #[] 5))
  have hbw := below_tr hbw (below_al w1 (.cells #[] 5))
  clear hb1 ha ha1
  refine (textsC A n c xs 6 _ HN.out (H.get 0 rfl) ha2 hm (by omega)).mono ?_
  rw [HLS.out]
  rintro e w2 ⟨A3, n3, c3, rfl, hn3, hl3, hN3, hc3, hb2⟩
  have hbw := below_tr hbw hb2
  have H := (H.step hb2).cons hl3
  have hown := ownsRow_below hown hb2 (Nat.le_refl _)
  have hc := (below_al w1 (.cells #[] 5)).trans (hb2.mono (by simp))
  clear hb2 hl3 ha2 hN3
  go_wp2_with fail
  refine (bytesC A3 n3 c3 ls _ hn3 (H.get 0 rfl) (by omega) (fun x hx => by have := hsh2 x hx; omega) bl HBL.out).mono ?_
  rintro e w3 ⟨g4, n4, c4, rfl, hn4, _, hl4, hc4, hb3⟩
  have hbw := below_tr hbw hb3
  have H := (H.step hb3).cons hl4
  have hown := ownsRow_below hown hb3 (Nat.le_refl _)
  have hc := hc.trans (hb3.mono hc.size)
  clear hb3 hl4
  have hn4' : n4 ≤ 240 := by omega
  have HN4 := Lib.hid hn4
  clear hn4
  go_wp2_with (first
    | (at_builtin; refine wpList_appN _ rfl (.tmp 31) (.tmp 34) 23 rfl w1.heap.size 5 (.int .u8 0) 1 1 Try.underlying23 ei5 rfl (by omega) _ 0 _ rfl hown (some ⟨g4, 0, none⟩) n4 c4 _ (bl.map bV) rfl (by simp; exact HN4.out) (H.get 0 rfl) (map_bV_one _) (by omega) (by omega) hc.size ?_; intro v5 w5 hown5 hg5 hb5 hat5)
    | (at_builtin; go_must (refine wpList_appN _ rfl (.tmp 36) (.tmp 37) 23 rfl w1.heap.size 5 (.int .u8 0) 1 1 Try.underlying23 ei5 rfl (by omega) v5 (0 + n4) _ rfl hown5 A2 n2 c2 _ (more.map bV) rfl (by simp; exact HN2.out) ((H1.get 1 rfl).below (hc.trans hb5)) (map_bV_one _) (by omega) (by omega) (by have := hb5.size; have := hc.size; omega) ?_; intro v6 w6 hown6 hg6 hb6 hat6)))
  rw [Nat.zero_add] at hown6
  obtain ⟨A6, c6, rfl, hl6, _, hN6, hc6⟩ := own_open hown6
  have hc := (hc.trans hb5).trans hb6
  rw [List.nil_append, ← List.map_append] at hl6
  have H := ((Has.nil w6).cons (((H1.get 1 rfl).below hc).more hc.size)).cons hl6
  have hb1 := below_tr hbs hc
  have hle6 : n4 + n2 ≤ 300 := by omega
  have HL6 : Hid ((bl ++ more).length = n4 + n2) := Lib.hid (by rw [List.length_append, HN4.out, HN2.out])
  clear hown5 hg5 hb5 hat5 hown6 hg6 hb6 hat6 hown hc hbw H1 hl6
  have hp1 := fun w h => putC A6 _ c6 (bl ++ more) s w HL6.out h (by omega) hc6 (by omega) _ rfl
  have hp2 := fun w h => refPutC A6 _ c6 (bl ++ more) s w HL6.out h (by omega) (by omega) _ rfl
  have hlen7 : (if lineB s = true then bl ++ more ++ entryL s else []).length ≤ 600 := by
    split
    · rw [List.length_append, HL6.out, entryL_length]; omega
    · simp
  generalize (if lineB s = true then bl ++ more ++ entryL s else []) = L7 at *
  generalize (if lineB s = true then (0 : Int) else 3) = k7 at *
  have P1 := Lib.hid hp1
  have P2 := Lib.hid hp2
  clear hp1 hp2
  refine (P1.out _ (H.get 0 rfl)).mono ?_
  intro e w7 h7
  obtain ⟨A7, n7, c7, rfl, hn7, hl7, hN7, hc7, hb7⟩ := put_open h7
  have hb1 := below_tr hb1 hb7
  have H := (H.step hb7).cons hl7
  have HN7 := Lib.hid hn7
  clear h7 hl7 hN7 hb7 hn7
  go_wp2_with fail
  refine (P2.out _ (H.get 1 rfl)).mono ?_
  intro e w8 h8
  obtain ⟨A8, n8, c8, rfl, hn8, hl8, hN8, hc8, hb8⟩ := put_open h8
  have hb1 := below_tr hb1 hb8
  have H := (H.step hb8).cons hl8
  have HN8 := Lib.hid hn8
  clear h8 hl8 hN8 hb8 hn8
  go_wp2_with fail
  refine (readC A6 _ c6 (bl ++ more) _ HL6.out (H.get 2 rfl) hN6 (by omega) hc6 _ _ rfl rfl).mono ?_
  rintro e w9 ⟨A9, n9, c9, rfl, hn9, hl9, hc9, hb9⟩
  have hb1 := below_tr hb1 hb9
  have H := (H.step hb9).cons hl9
  have HN9 := Lib.hid hn9
  clear hl9 hb9 hn9
  go_wp2_with fail
  refine (refReadC A6 _ c6 (bl ++ more) _ HL6.out (H.get 3 rfl) (by omega) hc6 _ _ rfl rfl).mono ?_
  rintro e w10 ⟨A10, n10, c10, rfl, hn10, hl10, hc10, hb10⟩
  have hb1 := below_tr hb1 hb10
  have H := (H.step hb10).cons hl10
  have HN10 := Lib.hid hn10
  clear hl10 hb10 hn10
  go_wp2_with fail
  refine (readC A2 _ c2 more _ HN2.out (H.get 5 rfl) hA2 (by omega) hc2 _ _ rfl rfl).mono ?_
  rintro e w11 ⟨A11, n11, c11, rfl, hn11, hl11, hc11, hb11⟩
  have hb1 := below_tr hb1 hb11
  have H := (H.step hb11).cons hl11
  have HN11 := Lib.hid hn11
  clear hl11 hb11 hn11
  go_wp2_with fail
  refine (refReadC A2 _ c2 more _ HN2.out (H.get 6 rfl) (by omega) hc2 _ _ rfl rfl).mono ?_
  rintro e w12 ⟨A12, n12, c12, rfl, hn12, hl12, hc12, hb12⟩
  have hb1 := below_tr hb1 hb12
  have H := (H.step hb12).cons hl12
  have HN12 := Lib.hid hn12
  clear hl12 hb12 hn12
  have hcv7 := run_bytes_string (P := Try.prog) (dst := 9) Try.underlying23 Try.underlying5 Try.underlying9 L7 c7 (H.get 5 rfl)
  have hcv8 := run_bytes_string (P := Try.prog) (dst := 9) Try.underlying23 Try.underlying5 Try.underlying9 L7 c8 (H.get 4 rfl)
  rw [HN7.out] at hcv7
  rw [HN8.out] at hcv8
  have hm9 := readL_count (bl ++ more)
  have hm11 := readL_count more
  rw [HN9.out, HL6.out] at hm9
  rw [HN11.out, HN2.out] at hm11
  go_wp2_with fail
  clear hcv7 hcv8
  refine (stringsC A9 A10 _ _ c9 c10 _ _ _ (H.get 3 rfl) (H.get 2 rfl) (by simp only [maxLen]; omega) HN9.out HN10.out true (by simp)).mono ?_
  rintro e w13 ⟨rfl, hb13⟩
  have hb1 := below_tr hb1 hb13
  have H := H.step hb13
  clear hb13
  go_wp2_with fail
  refine (stringsC A11 A12 _ _ c11 c12 _ _ _ (H.get 1 rfl) (H.get 0 rfl) (by simp only [maxLen]; omega) HN11.out HN12.out true (by simp)).mono ?_
  rintro e w14 ⟨rfl, hb14⟩
  have hb1 := below_tr hb1 hb14
  clear H hb14
  go_wp2
  go_ret
  exact ⟨rfl, hb1⟩

end Go.Proofs.Ytekgcedbejafeaa
