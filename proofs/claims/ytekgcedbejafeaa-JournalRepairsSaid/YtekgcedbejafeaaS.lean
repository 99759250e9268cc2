/-
  Walks of the laws JournalJoins and JournalTorn.
-/
import Derived.Test.YtekgcedbejafeaaR
namespace Go.Proofs.Ytekgcedbejafeaa
open Go.RowKit

theorem sV_len {ls : List (List UInt8)} {n : Nat} (h : ls.length = n) : (ls.map sV).length = n * 1 := by simpa using h

set_option maxHeartbeats 1000000 in
theorem joins_big (A : Option Addr) (n c : Nat) (A1 : Option Addr) (n1 c1 : Nat) (A2 : Option Addr) (n2 c2 : Nat) (w : World) (h2 : n2 ≤ maxLen) (hbig : 8 < n2) :
    Calls Try.prog 8 #[.slice A n c, .slice A1 n1 c1, .slice A2 n2 c2] w fun e w' => e = .returned (.bool true) ∧ Below w.heap.size w w' := by
  unfold maxLen at h2
  go_enter Try.func8, Try.ntmps8
  go_wp2_with (go_at_call 10; go_must (refine (sanity _).mono ?_; rintro e w1 ⟨rfl, hb1⟩))
  go_ret
  exact ⟨rfl, hb1⟩

theorem own_apart {w : World} {base : Nat} {e : TypeId} {sz : Nat} {v : Value} {n : Nat} {xs : List Value} (h : w.ownsRow base e sz v n xs) {row : Option Nat} (hr : ∀ k, row = some k → k < base) : v.ownBlock = none ∨ v.ownBlock ≠ row := by
  cases hv : v.ownBlock with
  | none => left; rfl
  | some k =>
    right
    intro e
    have h1 := h.lt k hv
    have h2 := hr k e.symm
    omega
set_option maxHeartbeats 1000000 in
theorem joins_small (A : Option Addr) (n c : Nat) (xs : List (Option Addr × Nat × List UInt8)) (A1 : Option Addr) (n1 c1 : Nat) (ys : List (Option Addr × Nat × List UInt8)) (A2 : Option Addr) (n2 c2 : Nat) (more : List UInt8) (w : World)
    (hn : xs.length = n) (hl : Lies w w.heap.size A (xs.map slV)) (ha : LiesAll w w.heap.size xs) (hm : n ≤ maxLen)
    (hn1 : ys.length = n1) (hl1 : Lies w w.heap.size A1 (ys.map slV)) (ha1 : LiesAll w w.heap.size ys) (hm1 : n1 ≤ maxLen)
    (hn2 : more.length = n2) (hl2 : Lies w w.heap.size A2 (more.map bV)) (h8 : n2 ≤ 8) :
    Calls Try.prog 8 #[.slice A n c, .slice A1 n1 c1, .slice A2 n2 c2] w fun e w' => e = .returned (.bool true) ∧ Below w.heap.size w w' := by
  obtain ⟨hsh1, hsh2⟩ := textsL_short (xs.map (·.2.2)) 5
  obtain ⟨hti1, hti2⟩ := textsL_short (ys.map (·.2.2)) 5
  have hok := textsL_ok (xs.map (·.2.2)) 5
  have hok2 := textsL_ok (ys.map (·.2.2)) 5
  generalize hls : textsL (xs.map (·.2.2)) 5 = ls at *
  generalize hms : textsL (ys.map (·.2.2)) 5 = ms at *
  have HLS := Lib.hid hls
  have HMS := Lib.hid hms
  clear hls hms
  have hbl := bytesL_short ls hsh2
  have hbm := bytesL_short ms hti2
  have hbl : (bytesL ls).length ≤ 200 := by omega
  have hbm : (bytesL ms).length ≤ 200 := by omega
  have hlines : Lines (ls ++ ms) := fun x hx => by
    rcases List.mem_append.1 hx with h | h
    · exact hok x h
    · exact hok2 x h
  have hrd : readL (bytesL ls ++ bytesL ms ++ more) = ls ++ ms := by
    rw [← bytesL_app]
    exact readL_app hlines (parse_short (by omega))
  have hbo := bytesOf_eq (ls ++ ms)
  rw [bytesL_app, List.length_append] at hbo
  have HRD := Lib.hid hrd
  have HBO := Lib.hid hbo
  clear hrd hbo hlines hok hok2
  generalize hBL : bytesL ls = bl at *
  generalize hBM : bytesL ms = bm at *
  have HBL := Lib.hid hBL
  have HBM := Lib.hid hBM
  clear hBL hBM
  have HN := Lib.hid hn
  have HN1 := Lib.hid hn1
  have HN2 := Lib.hid hn2
  clear hn hn1 hn2
  have H := ((Has.nil w).cons hl2).cons hl1
  have H := H.cons hl
  clear hl hl1 hl2
  go_enter Try.func8, Try.ntmps8
  go_wp2_with (go_at_call 10; go_must (refine (sanity _).mono ?_; rintro e w1 ⟨rfl, hb1⟩))
  have hbw := hb1
  have H := H.step hb1
  have ha := ha.step hb1
  have ha1 := ha1.step hb1
  clear hb1
  refine (textsC A n c xs 5 _ HN.out (H.get 0 rfl) ha hm (by omega)).mono ?_
  rw [HLS.out]
  rintro e w2 ⟨A3, n3, c3, rfl, hn3, hl3, hN3, hc3, hb2⟩
  have hbw := below_tr hbw hb2
  have H := (H.step hb2).cons hl3
  have ha1 := ha1.step hb2
  clear hb2 hl3 ha hN3
  have HN3 := Lib.hid hn3
  clear hn3
  go_wp2_with fail
  refine (textsC A1 n1 c1 ys 5 _ HN1.out (H.get 2 rfl) ha1 hm1 (by omega)).mono ?_
  rw [HMS.out]
  rintro e w3 ⟨A4, n4, c4, rfl, hn4, hl4, hN4, hc4, hb3⟩
  have hbw := below_tr hbw hb3
  have H := (H.step hb3).cons hl4
  clear hb3 hl4 ha1 hN4
  have HN4 := Lib.hid hn4
  clear hn4
  have hn3' : n3 ≤ 5 := by have := HN3.out; omega
  have hn4' : n4 ≤ 5 := by have := HN4.out; omega
  -- A4 (ms) 0, A3 (ls) 1, A 2, A1 3, A2 4
  have H3 := H
  have hown := World.ownsRow_lit (e := 5) (base := w3.heap.size) (size := 1) w3 #[] 0 (Nat.le_refl _) (by simp [maxLen]) rfl
  have H := H.step (below_al w3 (.cells #[] 5))
  have hbw3 := hbw
  go_wp2_with fail
  refine (bytesC A3 n3 c3 ls _ HN3.out (H.get 1 rfl) (by omega) (fun x hx => by have := hsh2 x hx; omega) bl HBL.out).mono ?_
  rintro e w4 ⟨g4, n5, c5, rfl, hn5, _, hl5, hc5, hb4⟩
  have H := (H.step hb4).cons hl5
  have hown := ownsRow_below hown hb4 (Nat.le_refl _)
  have hc := (below_al w3 (.cells #[] 5)).trans (hb4.mono (by simp))
  have hn5' : n5 ≤ 200 := by omega
  have HN5 := Lib.hid hn5
  clear hb4 hl5 hn5
  go_wp2_with (at_builtin; go_must (refine wpList_appN _ rfl (.tmp 24) (.tmp 26) 23 rfl w3.heap.size 5 (.int .u8 0) 1 1 Try.underlying23 ei5 rfl (by omega) _ 0 _ rfl hown (some ⟨g4, 0, none⟩) n5 c5 _ (bl.map bV) rfl (by simp; exact HN5.out) (H.get 0 rfl) (map_bV_one _) (by omega) (by omega) hc.size ?_; intro v5 w5 hown5 hg5 hb5 hat5))
  have hc := hc.trans hb5
  rw [Nat.zero_add, List.nil_append] at hown5
  clear H hg5 hb5 hat5 hown
  refine (bytesC A4 n4 c4 ms _ HN4.out ((H3.get 0 rfl).below hc |>.more hc.size) (by omega) (fun x hx => by have := hti2 x hx; omega) bm HBM.out).mono ?_
  rintro e w6 ⟨g6, n6, c6, rfl, hn6, _, hl6, hc6, hb6⟩
  have hc := hc.trans (hb6.mono hc.size)
  have hown5 := ownsRow_below hown5 hb6 (Nat.le_refl _)
  have hn6' : n6 ≤ 200 := by omega
  have HN6 := Lib.hid hn6
  clear hb6 hn6
  go_wp2_with (at_builtin; go_must (refine wpList_appN _ rfl (.tmp 28) (.tmp 30) 23 rfl w3.heap.size 5 (.int .u8 0) 1 1 Try.underlying23 ei5 rfl (by omega) _ n5 _ rfl hown5 (some ⟨g6, 0, none⟩) n6 c6 _ (bm.map bV) rfl (by simp; exact HN6.out) hl6 (map_bV_one _) (by omega) (by omega) hc.size ?_; intro v7 w7 hown7 hg7 hb7 hat7))
  have hc := hc.trans hb7
  rw [← List.map_append] at hown7
  clear hg7 hb7 hat7 hown5 hl6
  obtain ⟨A7, c7, rfl, _, _, hN7, hc7⟩ := own_open hown7
  have hlt7 := hown7.lt
  have hs1 := World.ownsRow_lit (e := 9) (base := w7.heap.size) (size := 1) w7 #[] 0 (Nat.le_refl _) (by simp [maxLen]) rfl
  have hq := below_al w7 (.cells #[] 9)
  have hA2 := (H3.get 4 rfl)
  have hA3 := (H3.get 1 rfl)
  have hA4 := (H3.get 0 rfl)
  go_wp2_with (first
    | (at_builtin; refine wpList_appN _ rfl (.tmp 34) (.tmp 35) 26 rfl w7.heap.size 9 (.string ⟨#[]⟩) 1 16 Try.underlying26 ei9 rfl (by omega) _ 0 _ rfl hs1 A3 n3 c3 _ (ls.map sV) rfl (sV_len HN3.out) (hA3.below (hc.trans (hq.mono hc.size))) (map_sV_one _) (by omega) (by omega) hq.size ?_; intro v8 w8 hown8 hg8 hb8 hat8)
    | (at_builtin; refine wpList_appN _ rfl (.tmp 37) (.tmp 38) 26 rfl w7.heap.size 9 (.string ⟨#[]⟩) 1 16 Try.underlying26 ei9 rfl (by omega) v8 (0 + n3) _ rfl hown8 A4 n4 c4 _ (ms.map sV) rfl (sV_len HN4.out) (hA4.below (hc.trans ((hq.trans hb8).mono hc.size))) (map_sV_one _) (by omega) (by omega) (hq.trans hb8).size ?_; intro v9 w9 hown9 hg9 hb9 hat9)
    | (at_builtin; go_must (refine wpList_appN _ rfl (.tmp 41) (.tmp 42) 23 rfl w3.heap.size 5 (.int .u8 0) 1 1 Try.underlying23 ei5 rfl (by omega) _ (n5 + n6) _ rfl (ownsRow_below hown7 ((hq.trans hb8).trans hb9) (Nat.le_refl _)) A2 n2 c2 _ (more.map bV) rfl (by simp; exact HN2.out) (hA2.below (hc.trans (((hq.trans hb8).trans hb9).mono hc.size))) (map_bV_one _) (by omega) (by omega) (by have := hc.size; have := ((hq.trans hb8).trans hb9).size; omega) ?_; intro v10 w10 hown10 hg10 hb10 hat10)))
  have hb79 := (hq.trans hb8).trans hb9
  have hc9 := hc.trans (hb79.mono hc.size)
  have hbw := below_tr hbw3 (hc9.trans hb10)
  simp only [Nat.zero_add, List.nil_append] at hown9
  rw [← List.map_append] at hown9 hown10
  have hown9 := hown9.kept hg10 (own_apart hown9 (fun k hk => (hlt7 k hk).2))
  obtain ⟨A9, c9, rfl, hl9, _, _, hc9'⟩ := own_open hown9
  obtain ⟨A10, c10, rfl, hl10, _, hN10, hc10⟩ := own_open hown10
  have H := ((Has.nil w10).cons hl9)
  clear hown9 hown10 hown7 hown8 hg8 hg9 hg10 hat8 hat9 hat10 hb8 hb9 hb10 hb79 hc9 hc hq hs1 hA2 hA3 hA4 H3 hbw3 hl9
  refine (readC A10 _ c10 (bl ++ bm ++ more) _ (by rw [List.length_append, List.length_append, HN5.out, HN6.out, HN2.out]) hl10 hN10 (by omega) hc10 _ (n5 + n6) HRD.out (by rw [HBO.out, HN5.out, HN6.out])).mono ?_
  rintro e w11 ⟨A11, n11, c11, rfl, hn11, hl11, hc11, hb11⟩
  have hbw := below_tr hbw hb11
  have H := (H.step hb11).cons hl11
  clear hb11 hl10 hl11
  have HN11 := Lib.hid hn11
  have hn11' : n11 ≤ 10 := by rw [← hn11, List.length_append]; omega
  clear hn11
  go_wp2_with (go_at_call 17; go_must (refine (stringsC A11 A9 _ _ c11 c9 _ _ _ (H.get 0 rfl) (H.get 1 rfl) (by simp only [maxLen]; omega) HN11.out (by rw [List.length_append, HN3.out, HN4.out]) true (by simp)).mono ?_; rintro e w12 ⟨rfl, hb12⟩))
  go_ret
  exact ⟨rfl, below_tr hbw hb12⟩

end Go.Proofs.Ytekgcedbejafeaa
