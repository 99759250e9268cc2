/-
  Walk of the law JournalTorn.
-/
import Derived.Test.YtekgcedbejafeaaS
namespace Go.Proofs.Ytekgcedbejafeaa
open Go.RowKit

theorem sizeOf9 (w : World) : (sizeOf 9).run Try.prog w = .ok 1 w := by kernel_rfl
theorem wholeC (A : Option Addr) (n c : Nat) (ls : List (List UInt8)) (m : Nat) (w : World) (hn : ls.length = n) (h1 : Lies w w.heap.size A (ls.map sV)) (hx : n ≤ 1000) (hb : ∀ x ∈ ls, x.length ≤ 30) (hm : m ≤ 10000000) (k b : Nat) (hk : (whole ls m 0 0).1 = k) (hb' : (whole ls m 0 0).2 = b) :
    Calls Try.prog 19 #[.slice A n c, .int .i64 m] w fun e w' => e = .returned (.tuple #[.int .i64 k, .int .i64 b]) ∧ w = w' := by
  subst hn hk hb'
  exact wholeW A c ls m w _ h1 hx (fun x hx => by have := hb x hx; omega) hm

set_option maxHeartbeats 1000000 in
theorem torn_walk (A : Option Addr) (n c : Nat) (xs : List (Option Addr × Nat × List UInt8)) (m : Nat) (w : World)
    (hn : xs.length = n) (hl : Lies w w.heap.size A (xs.map slV)) (ha : LiesAll w w.heap.size xs) (hm : n ≤ maxLen) (hmm : m < 65536) :
    Calls Try.prog 5 #[.slice A n c, .int .u16 m] w fun e w' => e = .returned (.bool true) ∧ Below w.heap.size w w' := by
  obtain ⟨hsh1, hsh2⟩ := textsL_short (xs.map (·.2.2)) 6
  have hok := textsL_ok (xs.map (·.2.2)) 6
  generalize hls : textsL (xs.map (·.2.2)) 6 = ls at *
  have HLS := Lib.hid hls
  clear hls
  have hbl := bytesL_short ls hsh2
  have hbl : (bytesL ls).length ≤ 240 := by omega
  have HN := Lib.hid hn
  clear hn
  have H := (Has.nil w).cons hl
  clear hl
  go_enter Try.func5, Try.ntmps5
  go_wp2_with (go_at_call 10; go_must (refine (sanity _).mono ?_; rintro e w1 ⟨rfl, hb1⟩))
  have hbw := hb1
  have H := H.step hb1
  have ha := ha.step hb1
  clear hb1
  refine (textsC A n c xs 6 _ HN.out (H.get 0 rfl) ha hm (by omega)).mono ?_
  rw [HLS.out]
  rintro e w2 ⟨A2, n2, c2, rfl, hn2, hl2, hN2, hc2, hb2⟩
  have hbw := below_tr hbw hb2
  have H := (Has.nil w2).cons hl2
  clear hb2 hl2 ha hN2
  have HN2 := Lib.hid hn2
  clear hn2
  have hn2' : n2 ≤ 6 := by have := HN2.out; omega
  go_wp2_with fail
  refine (bytesC A2 n2 c2 ls _ HN2.out (H.get 0 rfl) (by omega) (fun x hx => by have := hsh2 x hx; omega) _ rfl).mono ?_
  rintro e w3 ⟨g3, n3, c3, rfl, hn3, _, hl3, hc3, hb3⟩
  have hbw := below_tr hbw hb3
  have H := (H.step hb3).cons hl3
  have hn3' : n3 ≤ 240 := by omega
  have hk : (m : Int) % ((n3 : Int) + 1) = ((m % (n3 + 1) : Nat) : Int) := by simp
  have hkle : m % (n3 + 1) ≤ n3 := by have := Nat.mod_lt m (show 0 < n3 + 1 by omega); omega
  generalize m % (n3 + 1) = k at *
  obtain ⟨ht1, ht2, ht3, ht4, ht5⟩ := torn hok (n := k) (by omega)
  have hlt : ((bytesL ls).take k).length = k := by rw [List.length_take]; omega
  generalize hK : (whole ls k 0 0).1 = K at *
  generalize hB : (whole ls k 0 0).2 = B at *
  have HK := Lib.hid hK
  have HB := Lib.hid hB
  have HT1 := Lib.hid ht1
  have HT2 := Lib.hid ht2
  have HT5 := Lib.hid ht5
  have HLT := Lib.hid hlt
  have HN3 := Lib.hid hn3
  clear hb3 hl3 hK hB ht1 ht2 ht5 hlt hn3
  have hKn : K ≤ n2 := by rw [← HN2.out]; exact ht3
  have hltk : Lies w3 w3.heap.size (some ⟨g3, 0, none⟩) (((bytesL ls).take k).map bV) := by rw [List.map_take]; exact (H.get 0 rfl).take k
  have H := H.cons hltk
  have hsl1 := fun w => run_upto (P := Try.prog) w Try.underlying23 (by kernel_rfl) sizeOf5 (some ⟨g3, 0, none⟩) n3 c3 k (by omega)
  go_wp2_with fail
  refine (readC (some ⟨g3, 0, none⟩) k c3 ((bytesL ls).take k) _ HLT.out (H.get 0 rfl) (by simp) (by omega) (by omega) (ls.take K) B HT1.out HT2.out).mono ?_
  rintro e w4 ⟨A4, n4, c4, rfl, hn4, hl4, hc4, hb4⟩
  have hbw := below_tr hbw hb4
  have H := (H.step hb4).cons hl4
  clear hb4 hl4
  have HN4 := Lib.hid hn4
  clear hn4
  have hn4' : n4 ≤ 6 := by have := HN4.out; rw [List.length_take] at this; omega
  go_wp2_with (go_at_call 19; go_must (refine (wholeC A2 n2 c2 ls k _ HN2.out (H.get 3 rfl) (by omega) hsh2 (by omega) K B HK.out HB.out).mono ?_; rintro e w5 ⟨rfl, rfl⟩))
  -- w4: (A4, take K) 0, (g3, take k) 1, (g3, bytes) 2, (A2, ls) 3
  have hsl2 := fun w => run_upto (P := Try.prog) w Try.underlying26 (by kernel_rfl) sizeOf9 A2 n2 c2 K (by omega)
  have hsl3 := fun w => run_upto (P := Try.prog) w Try.underlying23 (by kernel_rfl) sizeOf5 (some ⟨g3, 0, none⟩) n3 c3 B (by omega)
  have hcv : ∀ p : Regrown, (convert 23 9 (.slice (some ⟨g3, 0, none⟩) B c3)).run Try.prog (Sort.grow (redrawn w4 p.d) p.os) = .ok (.string ⟨(bytesL (ls.take K)).toArray⟩) (Sort.grow (redrawn w4 p.d) p.os) := fun p => by
    have h2 := ((H.step (below_regrown w4 p.d p.os)).get 2 rfl).take B
    rw [← List.map_take, ← HT5.out] at h2
    have := run_bytes_string (P := Try.prog) (dst := 9) Try.underlying23 Try.underlying5 Try.underlying9 _ c3 h2
    rwa [show (bytesL (ls.take K)).length = B by rw [← bytesOf_eq, HT2.out]] at this
  refine wp_region_cls [(0, false), (1, false), (2, false), (3, false), (4, false), (5, false), (6, true), (7, false), (8, false), (9, false), (10, false), (11, false), (12, false), (13, false), (14, false), (15, false), (16, false), (19, false), (20, false), (21, false), (22, false), (17, true), (18, true), (23, false), (24, false), (25, false)] (by kernel_rfl) (by kernel_rfl) (by kernel_rfl) ?_
  intro w6 hb6
  have hlK : Lies w4 w4.heap.size A2 ((ls.take K).map sV) := by rw [List.map_take]; exact (H.get 3 rfl).take K
  have H := H.cons hlK
  repeat (refine seq_read rfl (fun Kc hKc => ?_); go_simp; first | (refine hKc _ ?_; clear hKc Kc) | (refine ⟨_, fun p => ?_, hKc _ ?_⟩; (go_simp; rfl); clear hKc Kc))
  refine seq_op rfl (fun Kc hKc => ?_)
  go_wp2_with (go_at_call 17; go_must (refine (stringsC A4 A2 n4 K c4 c2 (ls.take K) (ls.take K) _ ((H.step hb6).get 1 rfl) ((H.step hb6).get 0 rfl) (by simp only [maxLen]; omega) HN4.out (by rw [List.length_take, HN2.out]; omega) true (by simp)).mono ?_; rintro e w7 ⟨rfl, hb7⟩))
  have hb7 := below_tr hb6 hb7
  refine hKc _ _ (Cls.of hb7) ?_
  clear hKc Kc
  repeat (refine seq_read rfl (fun Kc hKc => ?_); go_simp; first | (refine hKc _ ?_; clear hKc Kc) | (refine ⟨_, fun p => ?_, hKc _ ?_⟩; (go_simp; rfl); clear hKc Kc))
  have hrep : bytesL (readL ((bytesL ls).take k)) = bytesL (ls.take K) := by rw [HT1.out]
  refine seq_op rfl (fun Kc hKc => ?_)
  go_wp2_with (go_at_call 18; go_must (refine (repairC (some ⟨g3, 0, none⟩) k c3 _ _ HLT.out ((H.step hb7).get 2 rfl) (by simp) (by omega) (by omega) _ hrep).mono ?_; rintro e w8 ⟨A8, n8, c8, rfl, hn8, hl8, hN8, hc8, hb8⟩))
  have hb8 := below_tr hb7 hb8
  refine hKc _ _ (Cls.of hb8) ?_
  clear hKc Kc hrep
  have hcv8 := run_bytes_string (P := Try.prog) (dst := 9) Try.underlying23 Try.underlying5 Try.underlying9 _ c8 hl8
  rw [hn8] at hcv8
  clear hn8
  refine seq_op rfl (fun Kc hKc => ?_)
  go_wp2
  refine hKc _ _ (Cls.of hb8) ?_
  clear hKc Kc
  repeat (refine seq_read rfl (fun Kc hKc => ?_); go_simp; first | (refine hKc _ ?_; clear hKc Kc) | (refine ⟨_, fun p => ?_, hKc _ ?_⟩; (go_simp; rfl); clear hKc Kc))
  refine seq_nil ?_
  go_wp2
  go_ret
  exact ⟨rfl, below_tr hbw hb8⟩

end Go.Proofs.Ytekgcedbejafeaa
