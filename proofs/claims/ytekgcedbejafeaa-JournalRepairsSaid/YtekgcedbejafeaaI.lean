/-
  Walks of the program's Read and Repair.
-/
import Derived.Test.YtekgcedbejafeaaH
import Derived.Lib.SlBytesConst
namespace Go.Proofs.Ytekgcedbejafeaa
open Go.RowKit

theorem readP_yes {f : Nat} {s : List UInt8} (h : (parse s).2 = true) : readP (f + 1) s = (parse s).1 :: readP f (s.drop ((parse s).1.length + 10)) := by rw [readP, if_pos h]
theorem readP_no {f : Nat} {s : List UInt8} (h : (parse s).2 = false) : readP f s = [] := by
  cases f with
  | zero => rfl
  | succ f => rw [readP, if_neg (by simp [h])]
theorem parse_no1 {s : List UInt8} (h : ¬ s.idxOf 10 < s.length) : (parse s).2 = false := by rw [parse, if_neg (by omega)]
theorem parse_no2 {s : List UInt8} (h : ¬ 9 ≤ s.idxOf 10) : (parse s).2 = false := by rw [parse, if_neg (by omega)]
theorem parse_no3 {s : List UInt8} (h : s[8]? ≠ some 32) : (parse s).2 = false := by
  unfold parse; simp [h]
theorem parse_at {s : List UInt8} {i : Nat} (hi : s.idxOf 10 = i) (h : i < s.length) (h9 : 9 ≤ i) (h8 : s[8]? = some 32) : parse s = (lineOf s i, lineB (lineOf s i) && (sumL (lineOf s i) == s.take 8)) := by
  subst hi; rw [parse, if_pos ⟨h, h9⟩, if_pos h8]

theorem sumBb (l : List UInt8) (w : World) (hs : l.length ≤ 1000000) :
    Calls Try.prog 23 #[.string ⟨l.toArray⟩] w fun e w' => e = .returned (.string ⟨(sumL l).toArray⟩) ∧ Below w.heap.size w w' :=
  (sumB l w hs).mono fun _ _ ⟨he, n, hn⟩ => ⟨he, by rw [hn]; exact below_drewN _ _ _⟩
theorem cell_sep (w : World) : (w.alloc (.cells #[.int .u8 10] 5 (1, 2))).cell? ⟨w.heap.size, 0, none⟩ = some (.int .u8 10) := by
  rw [cell_of_row _ _ _ _ _ _ (heap_alloc_new w _)]; rfl
theorem cutA_form (A : Option Addr) (k cap : Nat) (h : A = none ∨ ∃ b o, A = some ⟨b, o, none⟩) : cutA A k cap = none ∨ ∃ b o, cutA A k cap = some ⟨b, o, none⟩ := by
  unfold cutA
  split
  · exact h
  · rcases h with rfl | ⟨b, o, rfl⟩
    · left; rfl
    · right; unfold Addr.add; simp only [Option.map_some]; split
      · exact ⟨_, _, rfl⟩
      · exact ⟨_, _, rfl⟩
theorem cutA_none (A : Option Addr) (k cap : Nat) (h : A = none → cap = 0) (he : cutA A k cap = none) : cap - k = 0 := by
  unfold cutA at he
  split at he
  · omega
  · cases A with
    | none => have := h rfl; omega
    | some a => simp at he

set_option maxHeartbeats 800000 in
theorem read (A : Option Addr) (c : Nat) (l : List UInt8) (w : World) (B : Nat) (hB : B ≤ w.heap.size) (h1 : Lies w B A (l.map bV)) (hA2 : A = none → c = 0) (hl : l.length ≤ 100000) (hc : l.length ≤ c) :
    Calls Try.prog 15 #[.slice A l.length c] w (RetLines w (readP (l.length + 1) l) (bytesOf (readP (l.length + 1) l))) := by
  go_enter Try.func15, Try.ntmps15
  go_wp2
  go_loopw [4, 5] (fun v i wr => ∃ (acc : List (List UInt8)), bytesOf acc ≤ l.length ∧ i = .int .i64 (bytesOf acc) ∧ acc ++ readP (l.length + 1 - acc.length) (l.drop (bytesOf acc)) = readP (l.length + 1) l ∧
      wr.ownsRow w.heap.size 9 1 v acc.length (acc.map sV) ∧ Below w.heap.size w wr) (fun _ i _ => l.length - (intOf i).toNat)
  case atStart => exact ⟨[], by simp [bytesOf], rfl, rfl, World.ownsRow_nil _ _ _ _, (Below.refl _ _)⟩
  case round =>
    obtain ⟨acc, hk, rfl, hacc, hown, hb⟩ := hrel
    have HA := Lib.hid hacc
    clear hacc
    have hge := bytesOf_ge acc
    generalize hat : bytesOf acc = t at *
    have HT := Lib.hid hat
    clear hat
    have hcut := fun w => run_cut (P := Try.prog) w Try.underlying23 (by kernel_rfl) sizeOf5 A l.length c t hk
    have hlie := (h1.below (hb.mono hB)).cut (k := t) (cap := c) (by simpa using hc)
    have hnone := cutA_none A t c hA2
    rw [← List.map_drop] at hlie
    have hlen : (l.drop t).length = l.length - t := List.length_drop
    generalize hr : l.drop t = r at *
    have HR := Lib.hid hr
    clear hr
    generalize cutA A t c = A' at *
    have hlen' : r.length ≤ 1000000 := by omega
    have hcap : r.length ≤ c - t := by omega
    have hlie2 := hlie.below ((Below.refl B wr).alloc (by have := hb.size; omega) (.cells #[.int .u8 10] 5 (1, 2)))
    have hno : (parse r).2 = false → Hid (readP (l.length + 1) l = acc) := fun hf => Lib.hid (by rw [← HA.out, readP_no hf, List.append_nil])
    by_cases hi : r.idxOf 10 < r.length
    · obtain ⟨b, o, rfl, hbB, hcell⟩ := hlie (by rintro e; simp at e; subst e; simp at hi)
      have HL := Lib.hid hlen
      generalize hie : r.idxOf 10 = i at *
      have HIE := Lib.hid hie
      have hcall := Lib.hid (cutYes b o (c - t) wr.heap.size 1 i r (wr.alloc (.cells #[.int .u8 10] 5 (1, 2))) B hlie2 (cell_sep wr) hcap hie hi hlen')
      rw [hlen] at hcall
      clear hnone hlen hie
      have kc := fun (w : World) (C : Array Value) (n c : Nat) => Lib.run_convert_bytes_const (P := Try.prog) w 23 5 C n c Try.underlying23 Try.underlying5
      by_cases h9 : 9 ≤ i
      · have hc8 := hcell 8 (by simp; omega)
        simp only [List.getElem_map, bV] at hc8
        have hc8' : (wr.alloc (.cells #[.int .u8 10] 5 (1, 2))).cell? ⟨b, o + 8, none⟩ = some (.int .u8 (r[8].toNat : Int)) := by
          rw [World.cell?_alloc_lt _ _ _ (by have := hb.size; simp; omega)]; exact hc8
        clear hcell
        by_cases h32 : r[8] = 32
        · have hb32 : ((r[8].toNat : Int) != 32) = false := by rw [h32]; rfl
          have h8 : r[8]? = some 32 := by rw [List.getElem?_eq_getElem (by omega), h32]
          have hpa := parse_at HIE.out hi h9 h8
          have hnoT := hno
          have hll : (lineOf r i).length = i - 9 := by simp [lineOf]; omega
          have hlie9 : Lies (wr.alloc (.cells #[.int .u8 10] 5 (1, 2))) B (cutA (some ⟨b, o, none⟩) 9 (c - t)) ((lineOf r i).map bV) := by
            have := (hlie2.take i).cut (k := 9) (cap := c - t) (by simp; omega)
            rwa [← List.map_take, ← List.map_drop] at this
          have hlie8 : Lies (wr.alloc (.cells #[.int .u8 10] 5 (1, 2))) B (some ⟨b, o, none⟩) ((r.take 8).map bV) := by
            have := hlie2.take 8
            rwa [← List.map_take] at this
          have hl8 : (r.take 8).length = 8 := by simp; omega
          have hcut9 : ∀ w, (Instr.slice 23 (.slice (some ⟨b, o, none⟩) i (c - t)) (some (.int .i64 9)) none none).run Try.prog w = .ok (.slice (cutA (some ⟨b, o, none⟩) 9 (c - t)) (i - 9) (c - t - 9)) w := fun w => run_cut (P := Try.prog) w Try.underlying23 (by kernel_rfl) sizeOf5 (some ⟨b, o, none⟩) i (c - t) 9 h9
          have hcv9 : ∀ nd, (convert 23 9 (.slice (cutA (some ⟨b, o, none⟩) 9 (c - t)) (i - 9) (c - t - 9))).run Try.prog ((wr.alloc (.cells #[.int .u8 10] 5 (1, 2))).drewN nd) = .ok (.string ⟨(lineOf r i).toArray⟩) ((wr.alloc (.cells #[.int .u8 10] 5 (1, 2))).drewN nd) := fun nd => by
            have := run_bytes_string (P := Try.prog) (dst := 9) Try.underlying23 Try.underlying5 Try.underlying9 (lineOf r i) (c - t - 9) (hlie9.drewN nd)
            rwa [hll] at this
          have hcv8 : ∀ nd d os, (convert 23 9 (.slice (some ⟨b, o, none⟩) 8 (c - t))).run Try.prog (Sort.grow (redrawn ((wr.alloc (.cells #[.int .u8 10] 5 (1, 2))).drewN nd) d) os) = .ok (.string ⟨(r.take 8).toArray⟩) (Sort.grow (redrawn ((wr.alloc (.cells #[.int .u8 10] 5 (1, 2))).drewN nd) d) os) := fun nd d os => by
            have hbb : B ≤ ((wr.alloc (.cells #[.int .u8 10] 5 (1, 2))).drewN nd).heap.size := by have := hb.size; simp; omega
            have := run_bytes_string (P := Try.prog) (dst := 9) Try.underlying23 Try.underlying5 Try.underlying9 (r.take 8) (c - t) ((hlie8.drewN nd).below ((below_regrown _ d os).mono hbb))
            rwa [hl8] at this
          have hlnb : (lineOf r i).length ≤ 1000000 := by omega
          have hcap0 : ¬ c - t = 0 := by omega
          have hcut8 : ∀ w, (Instr.slice 23 (.slice (some ⟨b, o, none⟩) i (c - t)) none (some (.int .i64 8)) none).run Try.prog w = .ok (.slice (some ⟨b, o, none⟩) 8 (c - t)) w := fun w => by
            rw [run_slice_h w 23 (some ⟨b, o, none⟩) i (c - t) (by kernel_rfl) .i64 8 (by omega) (by omega), show Try.prog.elem 23 = 5 by kernel_rfl, sizeOf5]
            simp [sliced, hcap0, Addr.add]
          generalize lineOf r i = ln at *
          generalize cutA (some ⟨b, o, none⟩) 9 (c - t) = A9 at *
          clear hno h32 HIE hlie8 hlie9
          cases hbl : lineB ln with
          | false =>
            have hfin := hnoT (by rw [hpa, hbl]; rfl)
            have HB := Lib.hid hbl
            clear hnoT hpa hbl hll hl8 h8
            go_wp2_with (go_at_call 25; go_must (refine hcall.out.mono ?_; rintro e w1 ⟨⟨rest, rfl⟩, nd, rfl⟩))
            refine wp_region_quiet_below (by kernel_rfl) (by kernel_rfl) ?_
            repeat (quiet_step ((first | (go_at_call 22; exact Calls.regrown_of (isLineB _ _ _ HB.out hlnb)) | (go_at_call 23; exact Calls.regrown_of (sumBb _ _ hlnb)))))
            refine wpQuiet_nil ?_
            intro w3 hw3
            obtain ⟨⟨d3, os3⟩, hw3⟩ := hw3
            have hb3 := below_regrown ((wr.alloc (.cells #[.int .u8 10] 5 (1, 2))).drewN nd) d3 os3
            rw [← hw3] at hb3
            clear hw3
            go_wp2
            go_ret2
            rw [hfin.out, HT.out]
            refine ⟨_, rfl, ownsRow_below (ownsRow_drewN (hown.alloc _) nd) hb3 (Nat.le_refl _), ?_⟩
            exact ((hb.alloc hb.size _).trans (below_drewN _ nd _)).trans (hb3.mono (by have := hb.size; simp; omega))
          | true =>
            have HB := Lib.hid hbl
            have hl200 : ln.length ≤ 200 := by
              simp only [lineB, Bool.and_eq_true, decide_eq_true_eq] at hbl
              exact hbl.2
            cases hsm : (sumL ln == r.take 8) with
            | false =>
              have hfin := hnoT (by rw [hpa, hbl, hsm]; rfl)
              have hsm' : (!sumL ln == r.take 8) = true := by rw [hsm]; rfl
              clear hnoT hpa hbl hll hl8 h8 hsm
              go_wp2_with (go_at_call 25; go_must (refine hcall.out.mono ?_; rintro e w1 ⟨⟨rest, rfl⟩, nd, rfl⟩))
              refine wp_region_quiet_below (by kernel_rfl) (by kernel_rfl) ?_
              repeat (quiet_step ((first | (go_at_call 22; exact Calls.regrown_of (isLineB _ _ _ HB.out hlnb)) | (go_at_call 23; exact Calls.regrown_of (sumBb _ _ hlnb)))))
              refine wpQuiet_nil ?_
              intro w3 hw3
              obtain ⟨⟨d3, os3⟩, hw3⟩ := hw3
              have hb3 := below_regrown ((wr.alloc (.cells #[.int .u8 10] 5 (1, 2))).drewN nd) d3 os3
              rw [← hw3] at hb3
              clear hw3
              go_wp2
              go_ret2
              rw [hfin.out, HT.out]
              refine ⟨_, rfl, ownsRow_below (ownsRow_drewN (hown.alloc _) nd) hb3 (Nat.le_refl _), ?_⟩
              exact ((hb.alloc hb.size _).trans (below_drewN _ nd _)).trans (hb3.mono (by have := hb.size; simp; omega))
            | true =>
              have hp2 : (parse r).2 = true := by rw [hpa, hbl, hsm]; rfl
              have HY := Lib.hid (readP_yes (f := l.length + 1 - (acc.length + 1)) hp2)
              rw [hpa] at HY
              have hsm' : (!sumL ln == r.take 8) = false := by rw [hsm]; rfl
              have HLL := Lib.hid hll
              have hi10 : i = ln.length + 9 := by omega
              clear hnoT hpa hbl hll hl8 h8 hsm hp2
              have HI10 := Lib.hid hi10
              clear hi10
              go_wp2_with (go_at_call 25; go_must (refine hcall.out.mono ?_; rintro e w1 ⟨⟨rest, rfl⟩, nd, rfl⟩))
              refine wp_region_quiet_below (by kernel_rfl) (by kernel_rfl) ?_
              repeat (quiet_step ((first | (go_at_call 22; exact Calls.regrown_of (isLineB _ _ _ HB.out hlnb)) | (go_at_call 23; exact Calls.regrown_of (sumBb _ _ hlnb)))))
              refine wpQuiet_nil ?_
              intro w3 hw3
              obtain ⟨⟨d3, os3⟩, hw3⟩ := hw3
              have hb3 := below_regrown ((wr.alloc (.cells #[.int .u8 10] 5 (1, 2))).drewN nd) d3 os3
              rw [← hw3] at hb3
              clear hw3
              have hown3 := ownsRow_below (ownsRow_drewN (hown.alloc _) nd) hb3 (Nat.le_refl _)
              have hbw3 := ((hb.alloc hb.size (.cells #[.int .u8 10] 5 (1, 2))).trans (below_drewN _ nd _)).trans (hb3.mono (by have := hb.size; simp; omega))
              clear hb3 hown hcv9 hcv8 hcut9 hcut
              go_wp2_with (at_builtin; go_must (refine wpList_app1 _ rfl _ _ 26 rfl w.heap.size 9 (.string ⟨#[]⟩) 1 16 Try.underlying26 ei9 rfl (by omega) _ acc.length _ rfl hown3 _ rfl rfl (one1 rfl) (by omega) (by omega) hbw3.size ?_; intro v' w4 hown4 hg4 hb4 hat4))
              go_roundw
              case rel =>
                have hi10 := HI10.out
                refine ⟨acc ++ [ln], ?_, ?_, ?_, ?_, hbw3.trans hb4⟩
                · rw [bytesOf_snoc, HT.out]; have := HL.out; omega
                · rw [bytesOf_snoc, HT.out]; simp; omega
                · rw [← HA.out, show l.length + 1 - acc.length = (l.length + 1 - (acc.length + 1)) + 1 by omega, HY.out, bytesOf_snoc, HT.out, ← HR.out, List.drop_drop, List.length_append]
                  simp
                · rw [List.length_append, List.map_append]; exact hown4
              case measure => simp [intOf]; have := HL.out; omega
        · have hb32 : ((r[8].toNat : Int) != 32) = true := by
            rw [bne_iff_ne]; intro e; apply h32; apply UInt8.toNat_inj.1; simp; omega
          have hfin := hno (parse_no3 (by rw [List.getElem?_eq_getElem (by omega)]; simpa using h32))
          clear hno h32 HIE
          go_wp2_with (go_at_call 25; go_must (refine hcall.out.mono ?_; rintro e w1 ⟨⟨rest, rfl⟩, nd, rfl⟩))
          go_ret2
          rw [hfin.out, HT.out]
          exact ⟨_, rfl, ownsRow_drewN (hown.alloc _) nd, (hb.alloc hb.size _).trans (below_drewN _ nd _)⟩
      · have hfin := hno (parse_no2 (by rw [HIE.out]; exact h9))
        clear hno HIE
        go_wp2_with (go_at_call 25; go_must (refine hcall.out.mono ?_; rintro e w1 ⟨⟨rest, rfl⟩, nd, rfl⟩))
        go_ret2
        rw [hfin.out, HT.out]
        exact ⟨_, rfl, ownsRow_drewN (hown.alloc _) nd, (hb.alloc hb.size _).trans (below_drewN _ nd _)⟩
    · have hfin := hno (parse_no1 hi)
      have HL := Lib.hid hlen
      clear hno
      have hcall := Lib.hid (cutNo A' (c - t) wr.heap.size 1 r (wr.alloc (.cells #[.int .u8 10] 5 (1, 2))) B hlie2 (cell_sep wr) hnone hi hlen')
      rw [hlen] at hcall
      clear hi hnone hlen
      have kc := fun (w : World) (C : Array Value) (n c : Nat) => Lib.run_convert_bytes_const (P := Try.prog) w 23 5 C n c Try.underlying23 Try.underlying5
      go_wp2_with (go_at_call 25; go_must (refine hcall.out.mono ?_; rintro e w1 ⟨rfl, rfl⟩))
      go_ret2
      rw [hfin.out, HT.out]
      exact ⟨_, rfl, hown.alloc _, hb.alloc hb.size _⟩

end Go.Proofs.Ytekgcedbejafeaa
