/-
  Walk of the law JournalDamage.
-/
import Derived.Test.YtekgcedbejafeaaT
namespace Go.Proofs.Ytekgcedbejafeaa
open Go.RowKit

theorem OwnB.store {w : World} {base g n c : Nat} {l : List UInt8} (h : OwnB w base (.slice (some ⟨g, 0, none⟩) n c) l) {i : Nat} (hi : i < l.length) (x : UInt8) :
    w.cell? ⟨g, i, none⟩ = some (bV l[i]) ∧ w.frozen? ⟨g, i, none⟩ = false ∧ OwnB (w.setCell ⟨g, i, none⟩ (bV x)) base (.slice (some ⟨g, 0, none⟩) n c) (l.set i x) := by
  obtain ⟨g', cap, cur, fr, e, h1, h2, h3, h4, h5, h6, h7⟩ := h
  simp only [Value.slice.injEq, Option.some.injEq, Addr.mk.injEq, and_true] at e
  obtain ⟨rfl, rfl, rfl⟩ := e
  have hc : cur.toList[i]? = some (bV l[i]) := by
    have : (cur.toList.take l.length)[i]? = (l.map bV)[i]? := by rw [h7]
    rw [List.getElem?_take, if_pos hi, List.getElem?_map, List.getElem?_eq_getElem hi] at this
    simpa using this
  refine ⟨?_, ?_, g, c, cur.setIfInBounds i (bV x), fr, by simp, h1, ?_, by simpa using h3, h4, by simpa using h5, by simpa using h6, ?_⟩
  · rw [cell_of_row w g _ cur 5 fr h2, ← Array.getElem?_toList, hc]
  · simp only [World.frozen?, h2]
    rcases h5 with h5 | rfl
    · have : ¬ fr.1 ≤ i := by omega
      simp [this]
    · simp
  · simp [World.setCell, Array.getElem?_modify, h2]
  · simp only [List.length_set, Array.toList_setIfInBounds, List.take_set, h7, List.map_set]
theorem xor_u8 (a b : UInt8) : bits .xor .u8 (a.toNat : Int) (b.toNat : Int) = ((a ^^^ b).toNat : Int) := by
  have ha := a.toNat_lt
  have hb := b.toNat_lt
  have h1 : a.toNat % 2 ^ 8 = a.toNat := Nat.mod_eq_of_lt ha
  have h2 : b.toNat % 2 ^ 8 = b.toNat := Nat.mod_eq_of_lt hb
  have h3 : a.toNat ^^^ b.toNat < 2 ^ 8 := Nat.xor_lt_two_pow ha hb
  have h4 : (BitVec.ofNat 8 a.toNat ^^^ BitVec.ofNat 8 b.toNat).toNat = a.toNat ^^^ b.toNat := by
    rw [BitVec.toNat_xor, BitVec.toNat_ofNat, BitVec.toNat_ofNat, h1, h2]
  have h5 : bits .xor .u8 (a.toNat : Int) (b.toNat : Int) = IntKind.u8.wrap (((BitVec.ofNat 8 a.toNat ^^^ BitVec.ofNat 8 b.toNat).toNat : Nat) : Int) := by
    simp only [bits, BitVec.ofInt_natCast]
    rfl
  rw [h5, h4, UInt8.toNat_xor]
  exact wraps_u8 _ (by omega) (by omega)
theorem xor_ne {a b : UInt8} (h : b ≠ 0) : a ≠ a ^^^ b := by
  intro e
  apply h
  have : a ^^^ (a ^^^ b) = a ^^^ a := congrArg (a ^^^ ·) e.symm
  rw [← UInt8.xor_assoc, UInt8.xor_self, UInt8.zero_xor] at this
  exact this


set_option maxHeartbeats 1000000 in
theorem damage_walk (A : Option Addr) (n c : Nat) (xs : List (Option Addr × Nat × List UInt8)) (m : Nat) (x : UInt8) (w : World)
    (hn : xs.length = n) (hl : Lies w w.heap.size A (xs.map slV)) (ha : LiesAll w w.heap.size xs) (hm : n ≤ maxLen) (hmm : m < 65536) :
    Calls Try.prog 6 #[.slice A n c, .int .u16 m, .int .u8 x.toNat] w fun e w' => e = .returned (.bool true) ∧ Below w.heap.size w w' := by
  obtain ⟨hsh1, hsh2⟩ := textsL_short (xs.map (·.2.2)) 6
  have hok := textsL_ok (xs.map (·.2.2)) 6
  generalize hls : textsL (xs.map (·.2.2)) 6 = ls at *
  have HLS := Lib.hid hls
  clear hls
  have hbl := bytesL_short ls hsh2
  have hbl : (bytesL ls).length ≤ 240 := by omega
  have HN := Lib.hid hn
  clear hn
  have H := (Has.nil w).cons hl
  clear hl
  go_enter Try.func6, Try.ntmps6
  go_wp2_with (go_at_call 10; go_must (refine (sanity _).mono ?_; rintro e w1 ⟨rfl, hb1⟩))
  have hbw := hb1
  have H := H.step hb1
  have ha := ha.step hb1
  clear hb1
  refine (textsC A n c xs 6 _ HN.out (H.get 0 rfl) ha hm (by omega)).mono ?_
  rw [HLS.out]
  rintro e w2 ⟨A2, n2, c2, rfl, hn2, hl2, hN2, hc2, hb2⟩
  have hbw := below_tr hbw hb2
  have H := (Has.nil w2).cons hl2
  clear hb2 hl2 ha hN2
  have HN2 := Lib.hid hn2
  clear hn2
  have hn2' : n2 ≤ 6 := by have := HN2.out; omega
  go_wp2_with fail
  refine (bytesC A2 n2 c2 ls _ HN2.out (H.get 0 rfl) (by omega) (fun x hx => by have := hsh2 x hx; omega) _ rfl).mono ?_
  rintro e w3 ⟨g3, n3, c3, rfl, hn3, hob, hl3, hc3, hb3⟩
  have hn3' : n3 ≤ 240 := by omega
  by_cases hz : n3 = 0
  · have hz1 : ((n3 : Int) == 0) = true := by rw [hz]; rfl
    have HZ := Lib.hid hz
    clear hz
    go_wp2
    go_ret
    exact ⟨rfl, below_tr hbw hb3⟩
  · have hz1 : ((n3 : Int) == 0) = false := by rw [beq_eq_false_iff_ne]; omega
    have hpos : 0 < n3 := by omega
    clear hz
    by_cases hx : x = 0
    · have hx1 : ((x.toNat : Int) == 0) = true := by rw [hx]; rfl
      clear hx
      go_wp2
      go_ret
      exact ⟨rfl, below_tr hbw hb3⟩
    · have hx1 : ((x.toNat : Int) == 0) = false := by
        rw [beq_eq_false_iff_ne]; intro e; apply hx; apply UInt8.toNat_inj.1; simp; omega
      have hk : (m : Int) % (n3 : Int) = ((m % n3 : Nat) : Int) := by simp
      have hklt : m % n3 < n3 := Nat.mod_lt m hpos
      generalize m % n3 = k at *
      have hkl : k < (bytesL ls).length := by omega
      obtain ⟨hs1, hs2, hs3⟩ := hob.store hkl ((bytesL ls)[k] ^^^ x)
      simp only [bV] at hs1 hs3
      have hxo := xor_u8 (bytesL ls)[k] x
      obtain ⟨hd1, hd2, hd3⟩ := damaged hok hsh2 hkl (xor_ne (a := (bytesL ls)[k]) hx)
      have hbs := hb3.setCell (p := ⟨g3, k, none⟩) (OwnB.lies hob).2.2.2 (.int .u8 (((bytesL ls)[k] ^^^ x).toNat : Int))
      obtain ⟨hl4, hn4, _, _⟩ := OwnB.lies hs3
      generalize hK : (whole ls k 0 0).1 = K at *
      generalize hB : (whole ls k 0 0).2 = B at *
      have HK := Lib.hid hK
      have HB := Lib.hid hB
      have HD1 := Lib.hid hd1
      have HD2 := Lib.hid hd2
      have HN4 := Lib.hid hn4
      have hKn : K ≤ n2 := by rw [← HN2.out]; exact hd3
      clear hK hB hd1 hd2 hn4 hob hs3 hl3 hx hn3
      generalize hb' : (bytesL ls)[k] ^^^ x = b' at *
      clear hb'
      have H := (H.step hbs).cons hl4
      have hbw := below_tr hbw hbs
      clear hb3 hl4 hbs
      go_wp2_with fail
      refine (wholeC A2 n2 c2 ls k _ HN2.out (H.get 1 rfl) (by omega) hsh2 (by omega) K B HK.out HB.out).mono ?_
      rintro e w5 ⟨rfl, rfl⟩
      go_wp2_with fail
      refine (readC (some ⟨g3, 0, none⟩) n3 c3 _ _ HN4.out (H.get 0 rfl) (by simp) (by omega) hc3 (ls.take K) B HD1.out HD2.out).mono ?_
      rintro e w6 ⟨A6, n6, c6, rfl, hn6, hl6, hc6, hb6⟩
      have hbw := below_tr hbw hb6
      have H := (H.step hb6).cons hl6
      have HN6 := Lib.hid hn6
      have hlK : Lies w6 w6.heap.size A2 ((ls.take K).map sV) := by rw [List.map_take]; exact (H.get 2 rfl).take K
      have H := H.cons hlK
      have hn6' : n6 ≤ 6 := by rw [← hn6, List.length_take]; omega
      clear hb6 hl6 hn6 hlK
      have hsl2 := fun w => run_upto (P := Try.prog) w Try.underlying26 (by kernel_rfl) sizeOf9 A2 n2 c2 K (by omega)
      go_wp2_with (go_at_call 17; go_must (refine (stringsC A6 A2 n6 K c6 c2 (ls.take K) (ls.take K) _ (H.get 1 rfl) (H.get 0 rfl) (by simp only [maxLen]; omega) HN6.out (by rw [List.length_take, HN2.out]; omega) true (by simp)).mono ?_; rintro e w7 ⟨rfl, hb7⟩))
      go_ret
      exact ⟨rfl, below_tr hbw hb7⟩

end Go.Proofs.Ytekgcedbejafeaa
