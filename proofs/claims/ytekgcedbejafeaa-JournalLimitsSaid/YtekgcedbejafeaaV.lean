/-
  Walk of the law JournalLimits.
-/
import Derived.Test.YtekgcedbejafeaaU
namespace Go.Proofs.Ytekgcedbejafeaa
open Go.RowKit

def til (k : Nat) : List UInt8 := List.replicate k 126
theorem til_length (k : Nat) : (til k).length = k := List.length_replicate
theorem til_succ (k : Nat) : til (k + 1) = til k ++ [126] := List.replicate_succ'
theorem rep_line (k : Nat) : lineB (til k) = decide (k ≤ 200) := by
  unfold til
  have : (List.replicate k (126 : UInt8)).all okb = true := by
    rw [List.all_eq_true]
    intro c hc
    rw [(List.mem_replicate.1 hc).2]; rfl
  simp only [lineB, this, Bool.true_and, List.length_replicate]
theorem three_line (c : UInt8) : lineB [97, c, 98] = okb c := by
  have h1 : okb 97 = true := rfl
  have h2 : okb 98 = true := rfl
  simp [lineB, h1, h2]
theorem three_app (c : UInt8) : ByteArray.mk #[97] ++ ByteArray.mk [c].toArray ++ ByteArray.mk #[98] = ByteArray.mk [97, c, 98].toArray := by
  apply ByteArray.ext; simp

set_option maxHeartbeats 1000000 in
theorem limits_walk (m c : UInt8) (w : World) :
    Calls Try.prog 9 #[.int .u8 m.toNat, .int .u8 c.toNat] w fun e w' => e = .returned (.bool true) ∧ Below w.heap.size w w' := by
  have hm := m.toNat_lt
  have hmod : (m.toNat : Int) % 211 = ((m.toNat % 211 : Nat) : Int) := by simp
  have hk2 : m.toNat % 211 ≤ 210 := by omega
  go_enter Try.func9, Try.ntmps9
  go_wp2_with (go_at_call 10; go_must (refine (sanity _).mono ?_; rintro e w1 ⟨rfl, hb1⟩))
  generalize m.toNat % 211 = q at *
  go_loop [6, 7] (fun s i => ∃ k : Nat, k ≤ q ∧ i = .int .i64 k ∧ s = .string ⟨(til k).toArray⟩) (fun _ i => q - (intOf i).toNat)
  case atStart => exact ⟨0, by omega, rfl, rfl⟩
  case round =>
    obtain ⟨k, hk, rfl, rfl⟩ := hrel
    have hsz := str_size (til k)
    rw [til_length] at hsz
    by_cases hlt : k < q
    · go_wp2
      go_round
      case rel => exact ⟨k + 1, by omega, by go_num, by rw [show (ByteArray.mk #[126]) = ByteArray.mk [126].toArray from rfl, str_app, til_succ]⟩
      case measure => simp [intOf]; omega
    · obtain rfl : k = q := by omega
      have hln := rep_line k
      have hlen : (til k).length = k := til_length k
      generalize til k = s at *
      have HLN := Lib.hid hln
      have HLEN := Lib.hid hlen
      clear hln hlen
      have h3a := three_app c
      have H3L := Lib.hid (three_line c)
      have hcv0 := fun w : World => run_bytes_string (P := Try.prog) (dst := 9) Try.underlying23 Try.underlying5 Try.underlying9 [c] 1 (lies_new w #[.int .u8 c.toNat] 5 (0, 0) ([c].map bV) rfl)
      simp only [List.length_singleton] at hcv0
      have HCV := Lib.hid hcv0
      clear hcv0
      have hS := fun w : World => lies_new w #[.string ⟨s.toArray⟩] 9 (0, 0) ([s].map sV) rfl
      have HS := Lib.hid hS
      clear hS
      by_cases h200 : k ≤ 200
      · have hb1' : lineB s = true := by rw [HLN.out]; simpa using h200
        have hrd : readL (entryL s) = [s] := by
          have := readL_bytes (ls := [s]) (fun x hx => by rw [List.mem_singleton.1 hx]; exact hb1')
          rwa [bytesL_one] at this
        have hbo := bytesOf_eq [s]
        rw [bytesL_one] at hbo
        have HRD := Lib.hid hrd
        have HBO := Lib.hid hbo
        have HB := Lib.hid hb1'
        have hel := entryL_length s
        have HEL := Lib.hid hel
        clear hb1' hrd hbo hel
        cases hok : okb c
        all_goals
          have HOK := Lib.hid hok
          have hrange : (32 ≤ (c.toNat : Int) ∧ (c.toNat : Int) ≤ 126) ↔ okb c = true := by simp [okb]; omega
          rw [hok] at hrange
          have HRG := Lib.hid hrange
          clear hok hrange
          go_wp2_with fail
          refine (putT none 0 0 [] s _ rfl (Lies.nil _ _ _) (by omega) (by omega) (by have := HLEN.out; omega) HB.out).mono ?_
          intro e w2 h2
          obtain ⟨A2, n2, c2, rfl, hn2, hl2, hN2, hc2, hb2⟩ := put_open h2
          have hcv := HCV.out w2
          rw [List.nil_append] at hn2 hl2
          have hbw := below_tr hb1 hb2
          have H := (Has.nil w2).cons hl2
          have HN2 := Lib.hid hn2
          have hn2' : n2 ≤ 210 := by have := HEL.out; have := HLEN.out; omega
          clear hn2 h2 hb2 hl2
          go_wp2_with fail
        · refine (putF none 0 0 [] [97, c, 98] _ rfl (Lies.nil _ _ _) (by omega) (by omega) (by simp) (by rw [H3L.out, HOK.out])).mono ?_
          intro e w3 h3
          obtain ⟨A3, n3, c3, rfl, hn3, hl3, hN3, hc3, hb3⟩ := put_open h3
          have hb3 := below_a hb3
          have hbw := below_tr hbw hb3
          have H := H.step hb3
          clear h3 hn3 hl3 hN3 hb3 hcv
          have hr1 : (c.toNat : Int) < 32 ∨ 126 < (c.toNat : Int) := by
            have : ¬ (32 ≤ (c.toNat : Int) ∧ (c.toNat : Int) ≤ 126) := by rw [HRG.out]; simp
            omega
          rcases hr1 with hr1 | hr1
          all_goals
            go_wp2_with (first
              | (go_at_call 15; go_must (refine (readC A2 n2 c2 (entryL s) _ HN2.out (H.get 0 rfl) hN2 (by omega) hc2 [s] n2 HRD.out (by rw [HBO.out, HN2.out])).mono ?_; rintro e w4 ⟨A4, n4, c4, rfl, hn4, hl4, hc4, hb4⟩; obtain rfl : n4 = 1 := hn4.symm))
              | (go_at_call 17; go_must (refine (stringsC A4 _ 1 1 c4 1 [s] [s] _ ((hl4.below (below_al _ _)).more (by simp)) (HS.out w4) (by simp [maxLen]) rfl rfl true (by simp)).mono ?_; rintro e w5 ⟨rfl, hb5⟩)))
            go_ret
            exact ⟨rfl, below_tr (below_tr hbw hb4) (below_a hb5)⟩
        · refine (putT none 0 0 [] [97, c, 98] _ rfl (Lies.nil _ _ _) (by omega) (by omega) (by simp) (by rw [H3L.out, HOK.out])).mono ?_
          intro e w3 h3
          obtain ⟨A3, n3, c3, rfl, hn3, hl3, hN3, hc3, hb3⟩ := put_open h3
          have hb3 := below_a hb3
          have hbw := below_tr hbw hb3
          have H := H.step hb3
          clear h3 hn3 hl3 hN3 hb3 hcv
          have hr1 : 32 ≤ (c.toNat : Int) ∧ (c.toNat : Int) ≤ 126 := by rw [HRG.out]; trivial
          have hr2 := hr1.1
          have hr3 := hr1.2
          clear hr1
          go_wp2_with (first
            | (go_at_call 15; go_must (refine (readC A2 n2 c2 (entryL s) _ HN2.out (H.get 0 rfl) hN2 (by omega) hc2 [s] n2 HRD.out (by rw [HBO.out, HN2.out])).mono ?_; rintro e w4 ⟨A4, n4, c4, rfl, hn4, hl4, hc4, hb4⟩; obtain rfl : n4 = 1 := hn4.symm))
            | (go_at_call 17; go_must (refine (stringsC A4 _ 1 1 c4 1 [s] [s] _ ((hl4.below (below_al _ _)).more (by simp)) (HS.out w4) (by simp [maxLen]) rfl rfl true (by simp)).mono ?_; rintro e w5 ⟨rfl, hb5⟩)))
          go_ret
          exact ⟨rfl, below_tr (below_tr hbw hb4) (below_a hb5)⟩
      · have hb1' : lineB s = false := by rw [HLN.out]; simpa using h200
        have HB := Lib.hid hb1'
        clear hb1'
        cases hok : okb c
        all_goals
          have HOK := Lib.hid hok
          have hrange : (32 ≤ (c.toNat : Int) ∧ (c.toNat : Int) ≤ 126) ↔ okb c = true := by simp [okb]; omega
          rw [hok] at hrange
          have HRG := Lib.hid hrange
          clear hok hrange
          go_wp2_with fail
          refine (putF none 0 0 [] s _ rfl (Lies.nil _ _ _) (by omega) (by omega) (by have := HLEN.out; omega) HB.out).mono ?_
          intro e w2 h2
          obtain ⟨A2, n2, c2, rfl, hn2, hl2, hN2, hc2, hb2⟩ := put_open h2
          have hcv := HCV.out w2
          obtain rfl : n2 = 0 := hn2.symm
          have hbw := below_tr hb1 hb2
          have H := (Has.nil w2).cons hl2
          clear hn2 h2 hb2 hl2
          go_wp2_with fail
        · refine (putF none 0 0 [] [97, c, 98] _ rfl (Lies.nil _ _ _) (by omega) (by omega) (by simp) (by rw [H3L.out, HOK.out])).mono ?_
          intro e w3 h3
          obtain ⟨A3, n3, c3, rfl, hn3, hl3, hN3, hc3, hb3⟩ := put_open h3
          have hb3 := below_a hb3
          have hbw := below_tr hbw hb3
          have H := H.step hb3
          clear h3 hn3 hl3 hN3 hb3 hcv
          have hr1 : (c.toNat : Int) < 32 ∨ 126 < (c.toNat : Int) := by
            have : ¬ (32 ≤ (c.toNat : Int) ∧ (c.toNat : Int) ≤ 126) := by rw [HRG.out]; simp
            omega
          rcases hr1 with hr1 | hr1
          all_goals
            go_wp2_with (go_at_call 15; go_must (refine (readC A2 0 c2 [] _ rfl (H.get 0 rfl) hN2 (by omega) hc2 [] 0 (by decide +kernel) (by decide)).mono ?_; rintro e w4 ⟨A4, n4, c4, rfl, hn4, hl4, hc4, hb4⟩))
            go_ret
            exact ⟨rfl, below_tr hbw hb4⟩
        · refine (putT none 0 0 [] [97, c, 98] _ rfl (Lies.nil _ _ _) (by omega) (by omega) (by simp) (by rw [H3L.out, HOK.out])).mono ?_
          intro e w3 h3
          obtain ⟨A3, n3, c3, rfl, hn3, hl3, hN3, hc3, hb3⟩ := put_open h3
          have hb3 := below_a hb3
          have hbw := below_tr hbw hb3
          have H := H.step hb3
          clear h3 hn3 hl3 hN3 hb3 hcv
          have hr1 : 32 ≤ (c.toNat : Int) ∧ (c.toNat : Int) ≤ 126 := by rw [HRG.out]; trivial
          have hr2 := hr1.1
          have hr3 := hr1.2
          clear hr1
          go_wp2_with (go_at_call 15; go_must (refine (readC A2 0 c2 [] _ rfl (H.get 0 rfl) hN2 (by omega) hc2 [] 0 (by decide +kernel) (by decide)).mono ?_; rintro e w4 ⟨A4, n4, c4, rfl, hn4, hl4, hc4, hb4⟩))
          go_ret
          exact ⟨rfl, below_tr hbw hb4⟩

end Go.Proofs.Ytekgcedbejafeaa
