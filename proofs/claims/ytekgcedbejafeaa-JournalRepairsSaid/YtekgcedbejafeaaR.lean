/-
  Walk of the law JournalReads.
-/
import Derived.Test.YtekgcedbejafeaaQ
import Derived.Test.YtekgcedbejafeaaLib5
import Derived.Test.YtekgcedbejafeaaLibR
namespace Go.Proofs.Ytekgcedbejafeaa
open Go.RowKit

theorem bytesL_snoc' {ls : List (List UInt8)} {k : Nat} (h : k < ls.length) : bytesL (ls.take k) ++ entryL ls[k] = bytesL (ls.take (k + 1)) := (bytesL_snoc ls k h).symm
set_option maxHeartbeats 1000000 in
theorem reads_walk (A : Option Addr) (n c : Nat) (xs : List (Option Addr × Nat × List UInt8)) (w : World)
    (hn : xs.length = n) (hl : Lies w w.heap.size A (xs.map slV)) (ha : LiesAll w w.heap.size xs) (hm : n ≤ maxLen) :
    Calls Try.prog 4 #[.slice A n c] w fun e w' => e = .returned (.bool true) ∧ Below w.heap.size w w' := by
  obtain ⟨hsh1, hsh2⟩ := textsL_short (xs.map (·.2.2)) 8
  have hok := textsL_ok (xs.map (·.2.2)) 8
  generalize hls : textsL (xs.map (·.2.2)) 8 = ls at *
  have HLS := Lib.hid hls
  have HN := Lib.hid hn
  clear hls hn
  have H := (Has.nil w).cons hl
  clear hl
  go_enter Try.func4, Try.ntmps4
  go_wp2_with (go_at_call 10; go_must (refine (sanity _).mono ?_; rintro e w1 ⟨rfl, hb1⟩))
  have hbw := hb1
  have H := H.step hb1
  have ha1 := ha.step hb1
  clear hb1 ha
  refine (textsC A n c xs 8 _ HN.out (H.get 0 rfl) ha1 hm (by omega)).mono ?_
  rw [HLS.out]
  rintro e w2 ⟨A2, n2, c2, rfl, hn2, hl2, hN2, hc2, hb2⟩
  have hbw := below_tr hbw hb2
  have H := (Has.nil w2).cons hl2
  have H := H.step (below_al w2 (.cells #[] 5))
  have hbw := below_tr hbw (below_al w2 (.cells #[] 5))
  clear hb2 hl2 ha1 hN2
  have HN2 := Lib.hid hn2
  clear hn2
  go_wp2_with fail
  go_loopw [5, 6] (fun b i wr => ∃ k A n c, k ≤ n2 ∧ i = .int .i64 k ∧ b = .slice A n c ∧ (bytesL (ls.take k)).length = n ∧ Lies wr wr.heap.size A ((bytesL (ls.take k)).map bV) ∧ (A = none → c = 0) ∧ n ≤ c ∧ Has wr [(A2, ls.map sV)] ∧ Below w.heap.size w wr) (fun _ i _ => n2 - (intOf i).toNat)
  case atStart => exact ⟨0, _, 0, 0, Nat.zero_le _, rfl, rfl, by simp [bytesL], by simpa [bytesL] using Lies.nil _ _ _, by simp, Nat.le_refl _, H, hbw⟩
  case round =>
    clear H hbw
    obtain ⟨k, A3, n3, c3, hk, rfl, rfl, hn3, hl3, hN3, hc3, H, hbw⟩ := hrel
    have hbs := bytesL_short (ls.take k) (fun l hl => hsh2 l (List.mem_of_mem_take hl))
    rw [List.length_take, HN2.out, Nat.min_eq_left hk, hn3] at hbs
    have hbs : n3 ≤ 320 := by have := HN2.out; omega
    have HN3 := Lib.hid hn3
    clear hn3
    by_cases hlt : k < n2
    · have hlt' : k < ls.length := by rw [HN2.out]; exact hlt
      obtain ⟨g, o, rfl, hg, hcell⟩ := (H.get 0 rfl).at_ (k := k) (by simpa using hlt')
      simp only [List.getElem_map, sV] at hcell
      have hlen := hsh2 ls[k] (List.getElem_mem _)
      have hokk := hok ls[k] (List.getElem_mem _)
      have hsz := str_size ls[k]
      have HOK := Lib.hid hokk
      have hsn := bytesL_snoc' hlt'
      have hel := entryL_length ls[k]
      have hll := congrArg List.length hsn
      rw [List.length_append, HN3.out, hel] at hll
      have htk : (bytesL (ls.take (k + 1))).take n3 = bytesL (ls.take k) := by rw [← hsn, List.take_left' HN3.out]
      have HSN := Lib.hid hsn
      have HTK := Lib.hid htk
      clear hokk hsn htk hel
      generalize hB : bytesL (ls.take (k + 1)) = b1 at *
      have HB := Lib.hid hB
      have HLL := Lib.hid hll
      clear hll hB
      go_wp2_with (go_at_call 13; go_must (refine (putT A3 n3 c3 (bytesL (ls.take k)) ls[k] _ HN3.out hl3 (by omega) hc3 (by omega) HOK.out).mono ?_; intro e w4 h4; obtain ⟨A4, n4, c4, rfl, hn4, hl4, hN4, hc4, hb4⟩ := put_open h4))
      rw [HSN.out] at hn4 hl4
      have hsub : n4 = n3 + (ls[k].length + 10) := by rw [← hn4, HLL.out]
      have hcmp1 : ((n4 : Int) != (n3 : Int) + (ls[k].length : Int) + 10) = false := by rw [hsub]; simp; omega
      have hle34 : n3 ≤ n4 := by omega
      have hn4' : n4 ≤ 400 := by omega
      have HSUB := Lib.hid hsub
      have HN4 := Lib.hid hn4
      have hl3' := (hl3.below hb4).more hb4.size
      have H := H.step hb4
      have hcell4 : w4.cell? ⟨g, o + k, none⟩ = some (.string ⟨ls[k].toArray⟩) := by
        rw [hb4.cell (p := ⟨g, o + k, none⟩) hg]; exact hcell
      have hbw := below_tr hbw hb4
      clear hsub hn4 hcell hg hb4 hl3
      have hsl := fun w => run_upto (P := Try.prog) w Try.underlying23 (by kernel_rfl) sizeOf5 A4 n4 c4 n3 (by omega)
      have hcv4 : ∀ nq, (convert 23 9 (.slice A4 n3 c4)).run Try.prog (w4.drewN nq) = .ok (.string ⟨(bytesL (ls.take k)).toArray⟩) (w4.drewN nq) := fun nq => by
        have hl' := hl4.take n3
        rw [← List.map_take, HTK.out] at hl'
        have := run_bytes_string (P := Try.prog) (dst := 9) Try.underlying23 Try.underlying5 Try.underlying9 (bytesL (ls.take k)) c4 (hl'.drewN nq)
        rwa [HN3.out] at this
      have hcv3 : ∀ nq, (convert 23 9 (.slice A3 n3 c3)).run Try.prog (w4.drewN nq) = .ok (.string ⟨(bytesL (ls.take k)).toArray⟩) (w4.drewN nq) := fun nq => by
        have := run_bytes_string (P := Try.prog) (dst := 9) Try.underlying23 Try.underlying5 Try.underlying9 (bytesL (ls.take k)) c3 (hl3'.drewN nq)
        rwa [HN3.out] at this
      go_wp2
      go_quiet (fail)
      rename_i nq
      clear hcv3 hcv4 hsl
      go_wp2
      go_roundw
      case rel =>
        refine ⟨k + 1, A4, n4, c4, by omega, by go_num, rfl, by rw [HB.out]; exact HN4.out, ?_, hN4, hc4, H.step (below_drewN _ nq _), below_tr hbw (below_drewN _ nq _)⟩
        rw [HB.out]; exact hl4.drewN nq
      case measure => simp [intOf]; omega
    · obtain rfl : k = n2 := by omega
      have htk : ls.take k = ls := List.take_of_length_le (by rw [HN2.out]; exact Nat.le_refl _)
      have hrd := readL_bytes hok
      have hbo := bytesOf_eq ls
      rw [htk] at HN3 hl3
      rw [HN3.out] at hbo
      have HO := Lib.hid hbo
      have HR := Lib.hid hrd
      have hbs2 : ls.length ≤ 8 := hsh1
      clear hbo hrd htk
      generalize hbl : bytesL ls = bl at *
      have HBL := Lib.hid hbl
      clear hbl
      go_wp2_with (go_at_call 15; go_must (refine (readC A3 n3 c3 bl _ HN3.out hl3 hN3 (by omega) hc3 ls n3 HR.out HO.out).mono ?_; rintro e w5 ⟨A5, n5, c5, rfl, hn5, hl5, hc5, hb5⟩))
      have hbw := below_tr hbw hb5
      have H := ((H.step hb5).cons ((hl3.below hb5).more hb5.size)).cons hl5
      clear hl3 hb5 hl5
      have hcv : ∀ p : Regrown, (convert 23 9 (.slice A3 n3 c3)).run Try.prog (Sort.grow (redrawn w5 p.d) p.os) = .ok (.string ⟨bl.toArray⟩) (Sort.grow (redrawn w5 p.d) p.os) := fun p => by
        have := run_bytes_string (P := Try.prog) (dst := 9) Try.underlying23 Try.underlying5 Try.underlying9 bl c3 ((H.step (below_regrown w5 p.d p.os)).get 1 rfl)
        rwa [HN3.out] at this
      refine wp_region_cls [(0, false), (1, false), (2, false), (3, false), (4, true), (5, false), (6, false), (7, false), (8, false), (9, false), (10, false), (11, false), (12, false), (13, false), (16, false), (17, false), (14, true), (15, true), (18, false), (19, false), (20, false)] (by kernel_rfl) (by kernel_rfl) (by kernel_rfl) ?_
      intro w6 hb6
      repeat (refine seq_read rfl (fun K hK => ?_); go_simp; first | (refine hK _ ?_; clear hK K) | (refine ⟨_, fun p => ?_, hK _ ?_⟩; (go_simp; rfl); clear hK K))
      refine seq_op rfl (fun K hK => ?_)
      go_wp2_with (go_at_call 17; go_must (refine (stringsC A5 A2 n5 _ c5 c2 ls ls _ ((H.step hb6).get 0 rfl) ((H.step hb6).get 2 rfl) (by simp only [maxLen]; omega) hn5 HN2.out true (by simp)).mono ?_; rintro e w7 ⟨rfl, hb7⟩))
      refine hK _ _ (Cls.of (below_tr hb6 hb7)) ?_
      clear hK K
      have hb7 := below_tr hb6 hb7
      repeat (refine seq_read rfl (fun K hK => ?_); go_simp; first | (refine hK _ ?_; clear hK K) | (refine ⟨_, fun p => ?_, hK _ ?_⟩; (go_simp; rfl); clear hK K))
      refine seq_op rfl (fun K hK => ?_)
      go_wp2_with (go_at_call 18; go_must (refine (repairC A3 n3 c3 bl _ HN3.out ((H.step hb7).get 1 rfl) hN3 (by omega) hc3 bl (by rw [HR.out]; exact HBL.out)).mono ?_; rintro e w8 ⟨A8, n8, c8, rfl, hn8, hl8, hN8, hc8, hb8⟩))
      have hb8 := below_tr hb7 hb8
      refine hK _ _ (Cls.of hb8) ?_
      clear hK K
      have hcv8 := run_bytes_string (P := Try.prog) (dst := 9) Try.underlying23 Try.underlying5 Try.underlying9 bl c8 hl8
      rw [hn8] at hcv8
      clear hn8
      refine seq_op rfl (fun K hK => ?_)
      go_wp2
      refine hK _ _ (Cls.of hb8) ?_
      clear hK K
      repeat (refine seq_read rfl (fun K hK => ?_); go_simp; first | (refine hK _ ?_; clear hK K) | (refine ⟨_, fun p => ?_, hK _ ?_⟩; (go_simp; rfl); clear hK K))
      refine seq_nil ?_
      go_wp2
      go_ret
      exact ⟨rfl, below_tr hbw hb8⟩

end Go.Proofs.Ytekgcedbejafeaa
