/-
  Walk of the law JournalRepairs.
-/
import Derived.Test.YtekgcedbejafeaaU
import Derived.Test.YtekgcedbejafeaaN
namespace Go.Proofs.Ytekgcedbejafeaa
open Go.RowKit

theorem Lies.cellAt {w : World} {B b o : Nat} {xs : List Value} (h : Lies w B (some ⟨b, o, none⟩) xs) {k : Nat} (hk : k < xs.length) : w.cell? ⟨b, o + k, none⟩ = some xs[k] := by
  obtain ⟨b', o', e, _, hc⟩ := h (by rintro rfl; simp at hk)
  simp only [Option.some.injEq, Addr.mk.injEq, and_true] at e
  obtain ⟨rfl, rfl⟩ := e
  exact hc k hk
theorem OwnB.cut {w : World} {base g n c : Nat} {l : List UInt8} (h : OwnB w base (.slice (some ⟨g, 0, none⟩) n c) l) {k : Nat} (hk : k ≤ n) : OwnB w base (.slice (some ⟨g, 0, none⟩) k c) (l.take k) := by
  obtain ⟨g', cap, cur, fr, e, h1, h2, h3, h4, h5, h6, h7⟩ := h
  simp only [Value.slice.injEq, Option.some.injEq, Addr.mk.injEq, and_true] at e
  obtain ⟨rfl, rfl, rfl⟩ := e
  have hl : (l.take k).length = k := by rw [List.length_take]; omega
  refine ⟨g, c, cur, fr, by rw [hl], h1, h2, by omega, h4, h5, by omega, ?_⟩
  rw [hl, List.map_take, ← h7, List.take_take, Nat.min_eq_left hk]
theorem wp_region_cls2 {P : Program} {Q : Exit → Act → World → Prop} {id : Nat} {a : Act} {w0 w : World} {ol : List Oper} (l : List (Nat × Bool)) (hm : P.follows .mixedOrders = true) (hs : Region.noSelect ol.toArray = true)
    (hB : (seqB ol.toArray l (Array.replicate ol.toArray.size false) && l.length == ol.toArray.size) = true) (hw : Below w0.heap.size w0 w)
    (h : wpSeq P ol.toArray (Cls w0) Q l a (w.drewN 1)) : (Code.region id ol.toArray true).wp P Q a w :=
  wp_region_seq l hm hs hB (Cls.of (hw.trans (below_drewN w 1 _))) h
theorem cls_cell {w0 : World} {a : Addr} {v : Value} (h : w0.cell? a = some v) : ∀ p : Regrown, (Sort.grow (redrawn w0 p.d) p.os).cell? a = some v := fun p => cell_regrown h p.d p.os

theorem textC (A : Option Addr) (n c : Nat) (l : List UInt8) (w : World) (hn : l.length = n) (h1 : Lies w w.heap.size A (l.map bV)) (hm : n ≤ maxLen) :
    Calls Try.prog 20 #[.slice A n c] w fun e w' => e = .returned (.string ⟨(textL l).toArray⟩) ∧ Below w.heap.size w w' := by
  subst hn
  exact text A c l w _ (Nat.le_refl _) h1 hm

set_option maxHeartbeats 1000000 in
theorem repairs_walk (A : Option Addr) (n c : Nat) (xs : List (Option Addr × Nat × List UInt8)) (a0 a1 : Nat) (A1 : Option Addr) (n1 c1 : Nat) (x : List UInt8) (w : World)
    (hn : xs.length = n) (hl : Lies w w.heap.size A (xs.map slV)) (ha : LiesAll w w.heap.size xs) (hm : n ≤ maxLen) (h0 : a0 < 65536) (h1 : a1 < 65536)
    (hn1 : x.length = n1) (hl1 : Lies w w.heap.size A1 (x.map bV)) (hm1 : n1 ≤ maxLen) :
    Calls Try.prog 7 #[.slice A n c, .agg #[.int .u16 a0, .int .u16 a1], .slice A1 n1 c1] w fun e w' => e = .returned (.bool true) ∧ Below w.heap.size w w' := by
  obtain ⟨hsh1, hsh2⟩ := textsL_short (xs.map (·.2.2)) 6
  have hok := textsL_ok (xs.map (·.2.2)) 6
  generalize hls : textsL (xs.map (·.2.2)) 6 = ls at *
  have HLS := Lib.hid hls
  clear hls
  have hbl := bytesL_short ls hsh2
  have hbl : (bytesL ls).length ≤ 240 := by omega
  have HN := Lib.hid hn
  have HN1 := Lib.hid hn1
  clear hn hn1
  have H := ((Has.nil w).cons hl1).cons hl
  clear hl hl1
  go_enter Try.func7, Try.ntmps7
  go_wp2_with fail
  have hbox := lies_new w #[.int .u16 a0, .int .u16 a1] 42 (0, 0) [.int .u16 a0, .int .u16 a1] rfl
  have hbw := below_al w (.cells #[.int .u16 a0, .int .u16 a1] 42)
  have H := (H.step hbw).cons hbox
  have ha := ha.step hbw
  refine (sanity _).mono ?_
  rintro e w1 ⟨rfl, hb1⟩
  have hbw := below_tr hbw hb1
  have H := H.step hb1
  have ha := ha.step hb1
  clear hb1 hbox
  go_wp2_with fail
  refine (textsC A n c xs 6 _ HN.out (H.get 1 rfl) ha hm (by omega)).mono ?_
  rw [HLS.out]
  rintro e w2 ⟨A2, n2, c2, rfl, hn2, hl2, hN2, hc2, hb2⟩
  have hbw := below_tr hbw hb2
  have H := (H.step hb2)
  have H2 := (Has.nil w2).cons hl2
  clear hb2 hl2 ha hN2
  have HN2 := Lib.hid hn2
  clear hn2
  have hn2' : n2 ≤ 6 := by have := HN2.out; omega
  go_wp2_with fail
  refine (bytesC A2 n2 c2 ls _ HN2.out (H2.get 0 rfl) (by omega) (fun x hx => by have := hsh2 x hx; omega) _ rfl).mono ?_
  rintro e w3 ⟨g3, n3, c3, rfl, hn3, hob, hl3, hc3, hb3⟩
  have hn3' : n3 ≤ 240 := by omega
  generalize bytesL ls = L0 at *
  have H3 := H.step hb3
  have hbx0 := (H3.get 0 rfl).cellAt (k := 0) (by simp)
  have hbx1 := (H3.get 0 rfl).cellAt (k := 1) (by simp)
  simp only [List.getElem_cons_zero, List.getElem_cons_succ, Nat.zero_add] at hbx0 hbx1
  have hr : (a0 : Int) % ((n3 : Int) + 1) = ((a0 % (n3 + 1) : Nat) : Int) := by simp
  have hrle : a0 % (n3 + 1) ≤ n3 := by have := Nat.mod_lt a0 (show 0 < n3 + 1 by omega); omega
  generalize a0 % (n3 + 1) = r at *
  have hsub : (n3 : Int) - (r : Int) = ((n3 - r : Nat) : Int) := by omega
  have hk0 : n3 - r ≤ n3 := by omega
  generalize n3 - r = k0 at *
  have hsl1 := fun w => run_upto (P := Try.prog) w Try.underlying23 (by kernel_rfl) sizeOf5 (some ⟨g3, 0, none⟩) n3 c3 k0 (by omega)
  have hob := hob.cut hk0
  generalize L0.take k0 = L at *
  obtain ⟨hlL, hnL, hcL, hgL⟩ := OwnB.lies hob
  have HNL := Lib.hid hnL
  clear hl3 hn3 hnL hrle
  by_cases hz : k0 = 0
  · have hz1 : ((k0 : Int)) ≤ 0 := by omega
    have HZ := Lib.hid hz
    have hbw := below_tr hbw (hb3.mono (Nat.le_refl _))
    have H := H3
    clear hz hob hb3
    go_wp2_with fail
    have H := H.cons hlL
    have hkb : k0 ≤ 240 := by omega
    clear hlL
    refine (readC (some ⟨g3, 0, none⟩) k0 c3 L _ HNL.out (H.get 0 rfl) (by simp) (by omega) (by omega) _ _ rfl rfl).mono ?_
    rintro e w6 ⟨A6, n6, c6, rfl, hn6, hl6, hc6, hb6⟩
    have hbw := below_tr hbw hb6
    have H := (H.step hb6).cons hl6
    have HN6 := Lib.hid hn6
    obtain ⟨hrt, hrl⟩ := readL_take L
    have hcount := readL_count L
    obtain ⟨hlns, _⟩ := readL_split L
    rw [HNL.out] at hrl hcount
    rw [hn6] at hcount
    generalize hleft : readL L = left at *
    have HLEFT := Lib.hid hleft
    have hbo := bytesOf_eq left
    generalize hkk : bytesOf left = kk at *
    have HRT := Lib.hid hrt
    have HKK := Lib.hid hkk
    have HBO := Lib.hid hbo
    clear hb6 hl6 hn6 hleft hrt hkk hbo
    go_wp2_with fail
    refine (repairC (some ⟨g3, 0, none⟩) k0 c3 L _ HNL.out (H.get 1 rfl) (by simp) (by omega) (by omega) (bytesL left) (by rw [HLEFT.out])).mono ?_
    rintro e w7 ⟨A7, n7, c7, rfl, hn7, hl7, hN7, hc7, hb7⟩
    obtain rfl : n7 = kk := by rw [← hn7, HBO.out]
    have hbw := below_tr hbw hb7
    have H := (H.step hb7).cons hl7
    have HN7 := Lib.hid hn7
    clear hb7 hl7 hn7 HBO
    -- A7 (bytesL left) 0, A6 (left) 1, g3 (L) 2, box 3, A 4, A1 5
    have hsl3 := fun w => run_upto (P := Try.prog) w Try.underlying23 (by kernel_rfl) sizeOf5 (some ⟨g3, 0, none⟩) k0 c3 n7 (by omega)
    have hcva : ∀ nq, (convert 23 9 (.slice A7 n7 c7)).run Try.prog (w7.drewN nq) = .ok (.string ⟨(bytesL left).toArray⟩) (w7.drewN nq) := fun nq => by
      have := run_bytes_string (P := Try.prog) (dst := 9) Try.underlying23 Try.underlying5 Try.underlying9 (bytesL left) c7 ((H.get 0 rfl).drewN nq)
      rwa [HN7.out] at this
    have hcvb : ∀ nq, (convert 23 9 (.slice (some ⟨g3, 0, none⟩) n7 c3)).run Try.prog (w7.drewN nq) = .ok (.string ⟨(bytesL left).toArray⟩) (w7.drewN nq) := fun nq => by
      have h2 := (H.get 2 rfl).take n7
      rw [← List.map_take, HRT.out] at h2
      have := run_bytes_string (P := Try.prog) (dst := 9) Try.underlying23 Try.underlying5 Try.underlying9 (bytesL left) c3 (h2.drewN nq)
      rwa [HN7.out] at this
    have hcmp : decide ((k0 : Int) < (n7 : Int)) = false := by simp; omega
    go_wp2
    go_quiet (fail)
    rename_i nq
    have hbw := below_tr hbw (below_drewN w7 nq _)
    have H := H.step (below_drewN w7 nq _)
    clear hcva hcvb hsl3 hcmp
    go_wp2_with fail
    refine (textC A1 n1 c1 x _ HN1.out (H.get 5 rfl) hm1).mono ?_
    rintro e w8 ⟨rfl, hb8⟩
    have hbw := below_tr hbw hb8
    have H := H.step hb8
    clear hb8
    have HTO := Lib.hid (textL_ok x)
    have htl := textL_len x
    generalize htx : textL x = tx at *
    have HTX := Lib.hid htx
    clear htx
    have hlin2 : Lines (left ++ [tx]) := fun y hy => by
      rcases List.mem_append.1 hy with h | h
      · exact hlns y h
      · rw [List.mem_singleton.1 h]; exact HTO.out
    have hrd2 : readL (bytesL left ++ entryL tx) = left ++ [tx] := by
      rw [← bytesL_one tx, ← bytesL_app]; exact readL_bytes hlin2
    have hbo2 := bytesOf_eq (left ++ [tx])
    rw [bytesL_app, bytesL_one, List.length_append, HN7.out] at hbo2
    have HRE2 := Lib.hid hrd2
    have HBO2 := Lib.hid hbo2
    have hrl2 := readL_bytes hlns
    have HRL2 := Lib.hid hrl2
    clear hlin2 hrd2 hbo2 hrl2
    have hel := entryL_length tx
    have HEL := Lib.hid hel
    clear hel
    go_wp2_with fail
    refine (putT A7 n7 c7 (bytesL left) tx _ HN7.out (H.get 0 rfl) (by omega) hc7 (by omega) HTO.out).mono ?_
    intro e w9 h9
    obtain ⟨A9, n9, c9, rfl, hn9, hl9, hN9, hc9, hb9⟩ := put_open h9
    have hbw := below_tr hbw hb9
    have H := (H.step hb9).cons hl9
    have hn9' : n9 ≤ 400 := by rw [← hn9, List.length_append, HN7.out, HEL.out]; omega
    have hbn9 : bytesOf (left ++ [tx]) = n9 := by rw [HBO2.out, ← hn9, List.length_append, HN7.out]
    have HN9 := Lib.hid hn9
    have HBN9 := Lib.hid hbn9
    clear h9 hb9 hl9 hn9 hbn9
    go_wp2_with fail
    refine (readC A9 n9 c9 _ _ HN9.out (H.get 0 rfl) hN9 (by omega) hc9 _ n9 HRE2.out HBN9.out).mono ?_
    rintro e w10 ⟨A10, n10, c10, rfl, hn10, hl10, hc10, hb10⟩
    have hbw := below_tr hbw hb10
    have H := (H.step hb10).cons hl10
    have hn10' : n10 ≤ 250 := by rw [← hn10, List.length_append, HN6.out]; simp; omega
    have HN10 := Lib.hid hn10
    clear hb10 hl10 hn10
    -- A10 0, A9 1, A7 2, A6 (left) 3, g3 4, box 5, A 6, A1 7
    have hs1 := World.ownsRow_lit (e := 9) (base := w10.heap.size) (size := 1) w10 #[] 0 (Nat.le_refl _) (by simp [maxLen]) rfl
    have hq := below_al w10 (.cells #[] 9)
    go_wp2_with (at_builtin; go_must (refine wpList_appN _ rfl (.tmp 84) (.tmp 85) 26 rfl w10.heap.size 9 (.string ⟨#[]⟩) 1 16 Try.underlying26 ei9 rfl (by omega) _ 0 _ rfl hs1 A6 n6 c6 _ (left.map sV) rfl (sV_len HN6.out) ((H.get 3 rfl).below hq) (map_sV_one _) (by omega) (by omega) hq.size ?_; intro v11 w11 hown11 hg11 hb11 hat11))
    rw [Nat.zero_add, List.nil_append] at hown11
    have hq := hq.trans hb11
    have H11 := H.step hq
    clear hs1 hg11 hb11 hat11
    refine (textC A1 n1 c1 x _ HN1.out (H11.get 7 rfl) hm1).mono ?_
    rw [HTX.out]
    rintro e w12 ⟨rfl, hb12⟩
    have hq := hq.trans (hb12.mono hq.size)
    have hown12 := ownsRow_below hown11 hb12 (Nat.le_refl _)
    clear hb12 hown11 H11
    go_wp2_with (at_builtin; go_must (refine wpList_app1 _ rfl (.tmp 87) (.tmp 90) 26 rfl w10.heap.size 9 (.string ⟨#[]⟩) 1 16 Try.underlying26 ei9 rfl (by omega) _ n6 _ rfl hown12 _ rfl rfl (one1 rfl) (by omega) (by omega) hq.size ?_; intro v13 w13 hown13 hg13 hb13 hat13))
    have hq := hq.trans hb13
    have H := H.step hq
    have hbw := below_tr hbw hq
    have hown13 : w13.ownsRow w10.heap.size 9 1 v13 (n6 + 1) ((left ++ [tx]).map sV) := by rw [List.map_append]; exact hown13
    obtain ⟨A13, c13, rfl, hl13, _, _, hc13⟩ := own_open hown13
    have H := H.cons hl13
    clear hg13 hb13 hat13 hown12 hown13 hq hl13
    -- A13 0, A10 1, A9 2, A7 3, A6 4
    have hcv : ∀ p : Regrown, (convert 23 9 (.slice A7 n7 c7)).run Try.prog (Sort.grow (redrawn w13 p.d) p.os) = .ok (.string ⟨(bytesL left).toArray⟩) (Sort.grow (redrawn w13 p.d) p.os) := fun p => by
      have := run_bytes_string (P := Try.prog) (dst := 9) Try.underlying23 Try.underlying5 Try.underlying9 _ c7 ((H.step (below_regrown w13 p.d p.os)).get 3 rfl)
      rwa [HN7.out] at this
    refine wp_region_cls [(0, false), (1, false), (2, false), (3, false), (4, false), (5, false), (6, false), (7, false), (8, true), (9, false), (10, false), (11, false), (12, false), (13, false), (14, false), (15, false), (16, false), (17, false), (20, false), (21, false), (18, true), (19, true), (22, false), (23, false), (24, false)] (by kernel_rfl) (by kernel_rfl) (by kernel_rfl) ?_
    intro w14 hb14
    repeat (refine seq_read rfl (fun Kc hKc => ?_); go_simp; first | (refine hKc _ ?_; clear hKc Kc) | (refine ⟨_, fun p => ?_, hKc _ ?_⟩; (go_simp; rfl); clear hKc Kc))
    refine seq_op rfl (fun Kc hKc => ?_)
    go_wp2_with (go_at_call 17; go_must (refine (stringsC A10 A13 n10 (n6 + 1) c10 c13 (left ++ [tx]) (left ++ [tx]) _ ((H.step hb14).get 1 rfl) ((H.step hb14).get 0 rfl) (by simp only [maxLen]; omega) HN10.out (by rw [List.length_append, HN6.out]; rfl) true (by simp)).mono ?_; rintro e w15 ⟨rfl, hb15⟩))
    have hb15 := below_tr hb14 hb15
    refine hKc _ _ (Cls.of hb15) ?_
    clear hKc Kc
    repeat (refine seq_read rfl (fun Kc hKc => ?_); go_simp; first | (refine hKc _ ?_; clear hKc Kc) | (refine ⟨_, fun p => ?_, hKc _ ?_⟩; (go_simp; rfl); clear hKc Kc))
    refine seq_op rfl (fun Kc hKc => ?_)
    go_wp2_with (go_at_call 18; go_must (refine (repairC A7 n7 c7 (bytesL left) _ HN7.out ((H.step hb15).get 3 rfl) hN7 (by omega) hc7 (bytesL left) (by rw [HRL2.out])).mono ?_; rintro e w16 ⟨A16, n16, c16, rfl, hn16, hl16, hN16, hc16, hb16⟩))
    have hb16 := below_tr hb15 hb16
    refine hKc _ _ (Cls.of hb16) ?_
    clear hKc Kc
    have hcv8 := run_bytes_string (P := Try.prog) (dst := 9) Try.underlying23 Try.underlying5 Try.underlying9 _ c16 hl16
    rw [hn16] at hcv8
    clear hn16
    refine seq_op rfl (fun Kc hKc => ?_)
    go_wp2
    refine hKc _ _ (Cls.of hb16) ?_
    clear hKc Kc
    repeat (refine seq_read rfl (fun Kc hKc => ?_); go_simp; first | (refine hKc _ ?_; clear hKc Kc) | (refine ⟨_, fun p => ?_, hKc _ ?_⟩; (go_simp; rfl); clear hKc Kc))
    refine seq_nil ?_
    go_wp2
    go_ret
    exact ⟨rfl, below_tr hbw hb16⟩
  · have hpos : 0 < k0 := by omega
    have hpos' : 0 < (k0 : Int) := by omega
    have hi : (a1 : Int) % (k0 : Int) = ((a1 % k0 : Nat) : Int) := by simp
    have hilt : a1 % k0 < k0 := Nat.mod_lt a1 hpos
    generalize a1 % k0 = i at *
    have hil : i < L.length := by rw [HNL.out]; exact hilt
    have hy : (a1 : Int) / 256 = (((UInt8.ofNat (a1 / 256)).toNat : Nat) : Int) := by
      rw [UInt8.toNat_ofNat']; omega
    obtain ⟨hs1, hs2, hs3⟩ := hob.store hil (UInt8.ofNat (a1 / 256))
    generalize UInt8.ofNat (a1 / 256) = y at *
    have hylt := y.toNat_lt
    go_wp2_with fail
    have hwr : IntKind.i64.wrap (a1 : Int) = (a1 : Int) := IntWalk.i64_in _ (by omega)
    have htm : (a1 : Int).tmod (k0 : Int) = (i : Int) := by rw [Int.tmod_eq_emod_of_nonneg (by omega), hi]
    have htd : (a1 : Int).tdiv 256 = (y.toNat : Int) := by rw [Int.tdiv_eq_ediv_of_nonneg (by omega), hy]
    have hw16 : IntKind.u16.wrap (y.toNat : Int) = (y.toNat : Int) := by rw [IntKind.wrap_u16]; omega
    have hw8 : IntKind.u8.wrap (y.toNat : Int) = (y.toNat : Int) := by rw [IntKind.wrap_u8]; omega
    have hi0 : (0 : Int) ≤ (i : Int) := by omega
    have hik : (i : Int) < (k0 : Int) := by omega
    clear hi hy
    refine wp_region_cls2 (w0 := w2) [(0, false), (1, false), (2, false), (3, false), (4, false), (5, false), (6, false), (7, false), (8, false), (9, false), (10, false), (11, false), (12, true)] (by kernel_rfl) (by kernel_rfl) (by kernel_rfl) hb3 ?_
    have hlt2 : w.heap.size < w2.heap.size := by
      obtain ⟨b, o, e, hb, _⟩ := H.get 0 rfl (by simp)
      simp at e
      omega
    have hbx2 := cls_cell (w0 := w2) (a := ⟨w.heap.size, 1, none⟩) (v := .int .u16 a1) (by rw [← hb3.cell (p := ⟨w.heap.size, 1, none⟩) hlt2]; exact hbx1)
    repeat (refine seq_read rfl (fun Kc hKc => ?_); go_simp; first | (refine hKc _ ?_; clear hKc Kc) | (refine ⟨_, fun p => ?_, hKc _ ?_⟩; (go_simp; rfl); clear hKc Kc))
    refine seq_op rfl (fun Kc hKc => ?_)
    go_wp2
    have hbs := (hb3.trans (below_drewN w3 1 _)).setCell (p := ⟨g3, i, none⟩) hgL (.int .u8 y.toNat)
    refine hKc _ _ (Cls.of hbs) ?_
    clear hKc Kc
    refine seq_nil ?_
    have hob4 : OwnB ((w3.drewN 1).setCell ⟨g3, i, none⟩ (.int .u8 y.toNat)) w2.heap.size (.slice (some ⟨g3, 0, none⟩) k0 c3) (L.set i y) := hs3
    have H4 : Has ((w3.drewN 1).setCell ⟨g3, i, none⟩ (.int .u8 y.toNat)) [(some ⟨w.heap.size, 0, none⟩, [.int .u16 a0, .int .u16 a1]), (A, xs.map slV), (A1, x.map bV)] := H.step hbs
    have hbw := below_tr hbw hbs
    generalize (w3.drewN 1).setCell ⟨g3, i, none⟩ (.int .u8 y.toNat) = w4 at *
    have H := H4
    obtain ⟨hlL, hnL, _, _⟩ := OwnB.lies hob4
    generalize L.set i y = L at *
    have HNL := Lib.hid hnL
    clear hnL hs1 hs2 hs3 hob hob4 hbx0 hbx1 hbx2 hwr htm htd hw16 hw8 hi0 hik hb3 hbs H3 H4
    go_wp2_with fail
    have H := H.cons hlL
    have hkb : k0 ≤ 240 := by omega
    clear hlL
    refine (readC (some ⟨g3, 0, none⟩) k0 c3 L _ HNL.out (H.get 0 rfl) (by simp) (by omega) (by omega) _ _ rfl rfl).mono ?_
    rintro e w6 ⟨A6, n6, c6, rfl, hn6, hl6, hc6, hb6⟩
    have hbw := below_tr hbw hb6
    have H := (H.step hb6).cons hl6
    have HN6 := Lib.hid hn6
    obtain ⟨hrt, hrl⟩ := readL_take L
    have hcount := readL_count L
    obtain ⟨hlns, _⟩ := readL_split L
    rw [HNL.out] at hrl hcount
    rw [hn6] at hcount
    generalize hleft : readL L = left at *
    have HLEFT := Lib.hid hleft
    have hbo := bytesOf_eq left
    generalize hkk : bytesOf left = kk at *
    have HRT := Lib.hid hrt
    have HKK := Lib.hid hkk
    have HBO := Lib.hid hbo
    clear hb6 hl6 hn6 hleft hrt hkk hbo
    go_wp2_with fail
    refine (repairC (some ⟨g3, 0, none⟩) k0 c3 L _ HNL.out (H.get 1 rfl) (by simp) (by omega) (by omega) (bytesL left) (by rw [HLEFT.out])).mono ?_
    rintro e w7 ⟨A7, n7, c7, rfl, hn7, hl7, hN7, hc7, hb7⟩
    obtain rfl : n7 = kk := by rw [← hn7, HBO.out]
    have hbw := below_tr hbw hb7
    have H := (H.step hb7).cons hl7
    have HN7 := Lib.hid hn7
    clear hb7 hl7 hn7 HBO
    -- A7 (bytesL left) 0, A6 (left) 1, g3 (L) 2, box 3, A 4, A1 5
    have hsl3 := fun w => run_upto (P := Try.prog) w Try.underlying23 (by kernel_rfl) sizeOf5 (some ⟨g3, 0, none⟩) k0 c3 n7 (by omega)
    have hcva : ∀ nq, (convert 23 9 (.slice A7 n7 c7)).run Try.prog (w7.drewN nq) = .ok (.string ⟨(bytesL left).toArray⟩) (w7.drewN nq) := fun nq => by
      have := run_bytes_string (P := Try.prog) (dst := 9) Try.underlying23 Try.underlying5 Try.underlying9 (bytesL left) c7 ((H.get 0 rfl).drewN nq)
      rwa [HN7.out] at this
    have hcvb : ∀ nq, (convert 23 9 (.slice (some ⟨g3, 0, none⟩) n7 c3)).run Try.prog (w7.drewN nq) = .ok (.string ⟨(bytesL left).toArray⟩) (w7.drewN nq) := fun nq => by
      have h2 := (H.get 2 rfl).take n7
      rw [← List.map_take, HRT.out] at h2
      have := run_bytes_string (P := Try.prog) (dst := 9) Try.underlying23 Try.underlying5 Try.underlying9 (bytesL left) c3 (h2.drewN nq)
      rwa [HN7.out] at this
    have hcmp : decide ((k0 : Int) < (n7 : Int)) = false := by simp; omega
    go_wp2
    go_quiet (fail)
    rename_i nq
    have hbw := below_tr hbw (below_drewN w7 nq _)
    have H := H.step (below_drewN w7 nq _)
    clear hcva hcvb hsl3 hcmp
    go_wp2_with fail
    refine (textC A1 n1 c1 x _ HN1.out (H.get 5 rfl) hm1).mono ?_
    rintro e w8 ⟨rfl, hb8⟩
    have hbw := below_tr hbw hb8
    have H := H.step hb8
    clear hb8
    have HTO := Lib.hid (textL_ok x)
    have htl := textL_len x
    generalize htx : textL x = tx at *
    have HTX := Lib.hid htx
    clear htx
    have hlin2 : Lines (left ++ [tx]) := fun y hy => by
      rcases List.mem_append.1 hy with h | h
      · exact hlns y h
      · rw [List.mem_singleton.1 h]; exact HTO.out
    have hrd2 : readL (bytesL left ++ entryL tx) = left ++ [tx] := by
      rw [← bytesL_one tx, ← bytesL_app]; exact readL_bytes hlin2
    have hbo2 := bytesOf_eq (left ++ [tx])
    rw [bytesL_app, bytesL_one, List.length_append, HN7.out] at hbo2
    have HRE2 := Lib.hid hrd2
    have HBO2 := Lib.hid hbo2
    have hrl2 := readL_bytes hlns
    have HRL2 := Lib.hid hrl2
    clear hlin2 hrd2 hbo2 hrl2
    have hel := entryL_length tx
    have HEL := Lib.hid hel
    clear hel
    go_wp2_with fail
    refine (putT A7 n7 c7 (bytesL left) tx _ HN7.out (H.get 0 rfl) (by omega) hc7 (by omega) HTO.out).mono ?_
    intro e w9 h9
    obtain ⟨A9, n9, c9, rfl, hn9, hl9, hN9, hc9, hb9⟩ := put_open h9
    have hbw := below_tr hbw hb9
    have H := (H.step hb9).cons hl9
    have hn9' : n9 ≤ 400 := by rw [← hn9, List.length_append, HN7.out, HEL.out]; omega
    have hbn9 : bytesOf (left ++ [tx]) = n9 := by rw [HBO2.out, ← hn9, List.length_append, HN7.out]
    have HN9 := Lib.hid hn9
    have HBN9 := Lib.hid hbn9
    clear h9 hb9 hl9 hn9 hbn9
    go_wp2_with fail
    refine (readC A9 n9 c9 _ _ HN9.out (H.get 0 rfl) hN9 (by omega) hc9 _ n9 HRE2.out HBN9.out).mono ?_
    rintro e w10 ⟨A10, n10, c10, rfl, hn10, hl10, hc10, hb10⟩
    have hbw := below_tr hbw hb10
    have H := (H.step hb10).cons hl10
    have hn10' : n10 ≤ 250 := by rw [← hn10, List.length_append, HN6.out]; simp; omega
    have HN10 := Lib.hid hn10
    clear hb10 hl10 hn10
    -- A10 0, A9 1, A7 2, A6 (left) 3, g3 4, box 5, A 6, A1 7
    have hs1 := World.ownsRow_lit (e := 9) (base := w10.heap.size) (size := 1) w10 #[] 0 (Nat.le_refl _) (by simp [maxLen]) rfl
    have hq := below_al w10 (.cells #[] 9)
    go_wp2_with (at_builtin; go_must (refine wpList_appN _ rfl (.tmp 84) (.tmp 85) 26 rfl w10.heap.size 9 (.string ⟨#[]⟩) 1 16 Try.underlying26 ei9 rfl (by omega) _ 0 _ rfl hs1 A6 n6 c6 _ (left.map sV) rfl (sV_len HN6.out) ((H.get 3 rfl).below hq) (map_sV_one _) (by omega) (by omega) hq.size ?_; intro v11 w11 hown11 hg11 hb11 hat11))
    rw [Nat.zero_add, List.nil_append] at hown11
    have hq := hq.trans hb11
    have H11 := H.step hq
    clear hs1 hg11 hb11 hat11
    refine (textC A1 n1 c1 x _ HN1.out (H11.get 7 rfl) hm1).mono ?_
    rw [HTX.out]
    rintro e w12 ⟨rfl, hb12⟩
    have hq := hq.trans (hb12.mono hq.size)
    have hown12 := ownsRow_below hown11 hb12 (Nat.le_refl _)
    clear hb12 hown11 H11
    go_wp2_with (at_builtin; go_must (refine wpList_app1 _ rfl (.tmp 87) (.tmp 90) 26 rfl w10.heap.size 9 (.string ⟨#[]⟩) 1 16 Try.underlying26 ei9 rfl (by omega) _ n6 _ rfl hown12 _ rfl rfl (one1 rfl) (by omega) (by omega) hq.size ?_; intro v13 w13 hown13 hg13 hb13 hat13))
    have hq := hq.trans hb13
    have H := H.step hq
    have hbw := below_tr hbw hq
    have hown13 : w13.ownsRow w10.heap.size 9 1 v13 (n6 + 1) ((left ++ [tx]).map sV) := by rw [List.map_append]; exact hown13
    obtain ⟨A13, c13, rfl, hl13, _, _, hc13⟩ := own_open hown13
    have H := H.cons hl13
    clear hg13 hb13 hat13 hown12 hown13 hq hl13
    -- A13 0, A10 1, A9 2, A7 3, A6 4
    have hcv : ∀ p : Regrown, (convert 23 9 (.slice A7 n7 c7)).run Try.prog (Sort.grow (redrawn w13 p.d) p.os) = .ok (.string ⟨(bytesL left).toArray⟩) (Sort.grow (redrawn w13 p.d) p.os) := fun p => by
      have := run_bytes_string (P := Try.prog) (dst := 9) Try.underlying23 Try.underlying5 Try.underlying9 _ c7 ((H.step (below_regrown w13 p.d p.os)).get 3 rfl)
      rwa [HN7.out] at this
    refine wp_region_cls [(0, false), (1, false), (2, false), (3, false), (4, false), (5, false), (6, false), (7, false), (8, true), (9, false), (10, false), (11, false), (12, false), (13, false), (14, false), (15, false), (16, false), (17, false), (20, false), (21, false), (18, true), (19, true), (22, false), (23, false), (24, false)] (by kernel_rfl) (by kernel_rfl) (by kernel_rfl) ?_
    intro w14 hb14
    repeat (refine seq_read rfl (fun Kc hKc => ?_); go_simp; first | (refine hKc _ ?_; clear hKc Kc) | (refine ⟨_, fun p => ?_, hKc _ ?_⟩; (go_simp; rfl); clear hKc Kc))
    refine seq_op rfl (fun Kc hKc => ?_)
    go_wp2_with (go_at_call 17; go_must (refine (stringsC A10 A13 n10 (n6 + 1) c10 c13 (left ++ [tx]) (left ++ [tx]) _ ((H.step hb14).get 1 rfl) ((H.step hb14).get 0 rfl) (by simp only [maxLen]; omega) HN10.out (by rw [List.length_append, HN6.out]; rfl) true (by simp)).mono ?_; rintro e w15 ⟨rfl, hb15⟩))
    have hb15 := below_tr hb14 hb15
    refine hKc _ _ (Cls.of hb15) ?_
    clear hKc Kc
    repeat (refine seq_read rfl (fun Kc hKc => ?_); go_simp; first | (refine hKc _ ?_; clear hKc Kc) | (refine ⟨_, fun p => ?_, hKc _ ?_⟩; (go_simp; rfl); clear hKc Kc))
    refine seq_op rfl (fun Kc hKc => ?_)
    go_wp2_with (go_at_call 18; go_must (refine (repairC A7 n7 c7 (bytesL left) _ HN7.out ((H.step hb15).get 3 rfl) hN7 (by omega) hc7 (bytesL left) (by rw [HRL2.out])).mono ?_; rintro e w16 ⟨A16, n16, c16, rfl, hn16, hl16, hN16, hc16, hb16⟩))
    have hb16 := below_tr hb15 hb16
    refine hKc _ _ (Cls.of hb16) ?_
    clear hKc Kc
    have hcv8 := run_bytes_string (P := Try.prog) (dst := 9) Try.underlying23 Try.underlying5 Try.underlying9 _ c16 hl16
    rw [hn16] at hcv8
    clear hn16
    refine seq_op rfl (fun Kc hKc => ?_)
    go_wp2
    refine hKc _ _ (Cls.of hb16) ?_
    clear hKc Kc
    repeat (refine seq_read rfl (fun Kc hKc => ?_); go_simp; first | (refine hKc _ ?_; clear hKc Kc) | (refine ⟨_, fun p => ?_, hKc _ ?_⟩; (go_simp; rfl); clear hKc Kc))
    refine seq_nil ?_
    go_wp2
    go_ret
    exact ⟨rfl, below_tr hbw hb16⟩

end Go.Proofs.Ytekgcedbejafeaa
