/-
  Walks of the functions on lines: both isLine, both sums.
-/
import Derived.Test.YtekgcedbejafeaaProg
import Derived.Test.YtekgcedbejafeaaLib4
namespace Go.Proofs.Ytekgcedbejafeaa
open Go.RowKit


def okb (c : UInt8) : Bool := decide (32 ≤ c.toNat) && decide (c.toNat ≤ 126)
def lineB (l : List UInt8) : Bool := l.all okb && decide (l.length ≤ 200)


theorem okb_all_snoc {s : ByteArray} {k : Nat} (h : k < s.size) (h1 : (s.data.toList.take k).all okb = true) (h2 : okb s[k] = true) : (s.data.toList.take (k+1)).all okb = true := by
  rw [take_snoc s k h, List.all_append, h1]; simp [h2]
theorem lineB_bad {s : ByteArray} {k : Nat} (h : k < s.size) (h2 : okb s[k] = false) : false = lineB s.data.toList := by
  have hm : s[k] ∈ s.data.toList := by
    have : s[k] = s.data[k] := rfl
    rw [this]; simp
  have : s.data.toList.all okb = false := by
    rw [List.all_eq_false]; exact ⟨_, hm, by simp [h2]⟩
  simp [lineB, this]
theorem lineB_end {s : ByteArray} {k : Nat} (hk : k ≤ s.size) (h : ¬ k < s.size) (h1 : (s.data.toList.take k).all okb = true) : decide ((s.size : Int) ≤ 200) = lineB s.data.toList := by
  have : k = s.size := by omega
  subst this
  rw [List.take_of_length_le (by simp)] at h1
  simp only [lineB, h1, Bool.true_and, Array.length_toList]
  show _ = decide (s.size ≤ 200)
  exact decide_eq_decide.2 (by omega)

set_option maxHeartbeats 400000 in
theorem refLine (s : ByteArray) (w : World) (hs : s.size ≤ maxLen) :
    Calls Try.prog 24 #[.string s] w fun e w' => e = .returned (.bool (lineB s.data.toList)) ∧ w = w' := by
  unfold maxLen at hs
  go_enter Try.func24, Try.ntmps24
  go_wp2
  go_loop [3] (fun i => ∃ k : Nat, k ≤ s.size ∧ i = .int .i64 k ∧ (s.data.toList.take k).all okb = true) (fun i => s.size - (intOf i).toNat)
  case atStart => exact ⟨0, Nat.zero_le _, rfl, rfl⟩
  case round =>
    obtain ⟨k, hk, rfl, hok⟩ := hrel
    have HO := Lib.hid hok
    clear hok
    by_cases hlt : k < s.size
    · go_wp2
      · go_ret
        refine ⟨ret_bool (lineB_bad hlt ?_), rfl⟩
        have h1 : (s[k].toNat : Int) < 32 ∨ 126 < (s[k].toNat : Int) := by assumption
        simp [okb]; omega
      · go_round
        case rel => exact ⟨k + 1, by omega, by go_num, okb_all_snoc hlt HO.out (by simp [okb]; omega)⟩
        case measure => simp [intOf]; omega
      · go_ret
        refine ⟨ret_bool (lineB_bad hlt ?_), rfl⟩
        simp [okb]; omega
    · go_wp2
      go_ret
      exact ⟨ret_bool (lineB_end hk hlt HO.out), rfl⟩

theorem below_iter (w : World) (s : ByteArray) (k : Nat) : Below w.heap.size w (w.iter s k) := (Below.refl _ _).alloc (Nat.le_refl _) _
theorem okb_of_decode {s : ByteArray} {k : Nat} (h : k < s.size) (h1 : ¬ ((Utf8.decode s k).1 : Int) < 32) (h2 : ¬ 126 < ((Utf8.decode s k).1 : Int)) : okb s[k] = true ∧ (Utf8.decode s k).2 = 1 := by
  by_cases ha : s[k].toNat < 128
  · rw [decode_ascii s k h ha] at h1 h2 ⊢
    simp [okb] at *; omega
  · have := decode_high s k h (by omega)
    omega
theorem not_okb_of_decode {s : ByteArray} {k : Nat} (h : k < s.size) (h1 : ((Utf8.decode s k).1 : Int) < 32 ∨ 126 < ((Utf8.decode s k).1 : Int)) : okb s[k] = false := by
  by_cases ha : s[k].toNat < 128
  · rw [decode_ascii s k h ha] at h1
    simp [okb] at *; omega
  · simp [okb]; omega
set_option maxHeartbeats 400000 in
theorem isLine (s : ByteArray) (w : World) (_hs : s.size ≤ maxLen) :
    Calls Try.prog 22 #[.string s] w fun e w' => e = .returned (.bool (lineB s.data.toList)) ∧ Below w.heap.size w w' := by
  go_enter Try.func22, Try.ntmps22
  go_wp2
  go_loopw [] (fun wr => ∃ k : Nat, k ≤ s.size ∧ wr = w.iter s k ∧ (s.data.toList.take k).all okb = true) (fun wr => s.size - wr.iterPos w.heap.size)
  case atStart => exact ⟨0, Nat.zero_le _, rfl, rfl⟩
  case round =>
    obtain ⟨k, hk, rfl, hok⟩ := hrel
    have HO := Lib.hid hok
    clear hok
    by_cases hlt : k < s.size
    · have hn := run_next_any (P := Try.prog) w s k 0 hlt
      have hd := decode_le s k
      go_wp2
      · go_ret
        refine ⟨ret_bool (lineB_bad hlt (not_okb_of_decode hlt (by assumption))), below_iter w s _⟩
      · have hh : 32 ≤ ((Utf8.decode s k).1 : Int) ∧ ((Utf8.decode s k).1 : Int) ≤ 126 := by assumption
        obtain ⟨g1, g2⟩ := okb_of_decode hlt (by omega) (by omega)
        go_roundw
        case rel => exact ⟨k + 1, by omega, by rw [g2], okb_all_snoc hlt HO.out g1⟩
        case measure => simp; omega
      · go_ret
        refine ⟨ret_bool (lineB_bad hlt (not_okb_of_decode hlt (Or.inl (by assumption)))), below_iter w s _⟩
    · have hn := run_next_end (P := Try.prog) w s k 0 hlt
      go_wp2
      go_ret
      exact ⟨ret_bool (lineB_end hk hlt HO.out), below_iter w s k⟩

def adStep (p : Int × Int) (c : UInt8) : Int × Int := ((p.1 + c.toNat) % 65521, (p.2 + (p.1 + c.toNat) % 65521) % 65521)
def ad (l : List UInt8) : Int × Int := l.foldl adStep (1, 0)
theorem ad_snoc (l : List UInt8) (c : UInt8) : ad (l ++ [c]) = adStep (ad l) c := by simp [ad, List.foldl_append]
theorem adStep_bd (p : Int × Int) (c : UInt8) : 0 ≤ (adStep p c).1 ∧ (adStep p c).1 < 65521 ∧ 0 ≤ (adStep p c).2 ∧ (adStep p c).2 < 65521 := by
  simp only [adStep]; omega
theorem ad_bd (l : List UInt8) : 0 ≤ (ad l).1 ∧ (ad l).1 < 65521 ∧ 0 ≤ (ad l).2 ∧ (ad l).2 < 65521 := by
  rcases List.eq_nil_or_concat l with rfl | ⟨l', c, rfl⟩
  · simp [ad]
  · rw [List.concat_eq_append, ad_snoc]; exact adStep_bd _ _
def hexd (d : Nat) : UInt8 := "0123456789abcdef".toUTF8.data.getD d 0
def hexL (n : Nat) (k : Nat) : List UInt8 := (List.range k).map fun i => hexd (n / 16 ^ (3 - i) % 16)

theorem hexL_length (n k : Nat) : (hexL n k).length = k := by simp [hexL]
theorem i64_and15 (x : Nat) (h : x < 65536) : bits .and .i64 (x : Int) 15 = (x % 16 : Nat) := by
  have := bits_mask .i64 16 (by decide) (fun n h0 h1 => by simp [IntKind.wrap, IntKind.bits, IntKind.signed]; omega) 4 (by decide) x (by omega) (by omega)
  simpa using this
theorem hexL_snoc (n k : Nat) : hexL n (k + 1) = hexL n k ++ [hexd (n / 16 ^ (3 - k) % 16)] := by simp [hexL, List.range_succ]
theorem hex_cut : ∀ d : Nat, d < 16 → (ByteArray.mk #[48, 49, 50, 51, 52, 53, 54, 55, 56, 57, 97, 98, 99, 100, 101, 102]).extract d (d + 1) = ⟨#[hexd d]⟩ := by decide +kernel
set_option maxHeartbeats 400000 in
theorem refHex (n : Nat) (w : World) (h1 : n < 65536) :
    Calls Try.prog 29 #[.int .i64 n] w fun e w' => e = .returned (.string ⟨(hexL n 4).toArray⟩) ∧ w = w' := by
  go_enter Try.func29, Try.ntmps29
  go_wp2
  go_loop [4, 5] (fun o t => ∃ k : Nat, k ≤ 4 ∧ t = .int .i64 (12 - 4 * (k : Int)) ∧ o = .string ⟨(hexL n k).toArray⟩) (fun _ t => (intOf t + 4).toNat)
  case atStart => exact ⟨0, Nat.zero_le _, rfl, rfl⟩
  case round =>
    obtain ⟨k, hk, rfl, rfl⟩ := hrel
    by_cases hlt : k < 4
    · have hlen := hexL_length n k
      have hx : n / 2 ^ (12 - 4 * k) = n / 16 ^ (3 - k) := by
        rw [show 12 - 4 * k = 4 * (3 - k) by omega, Nat.pow_mul]
      have hlt2 : n / 16 ^ (3 - k) < 65536 := Nat.lt_of_le_of_lt (Nat.div_le_self _ _) h1
      have hb : bits .and .i64 ((n : Int) / 2 ^ (12 - 4 * k)) 15 = ((n / 16 ^ (3 - k) % 16 : Nat) : Int) := by
        rw [← i64_and15 _ hlt2, ← hx]; simp
      have hs := hexL_snoc n k
      generalize hd : n / 16 ^ (3 - k) % 16 = d at *
      have hd16 : d < 16 := by omega
      have HS := Lib.hid hs
      have HC := Lib.hid (hex_cut d hd16)
      clear hx hs hd hlt2
      go_wp2
      go_round
      case rel => exact ⟨k + 1, by omega, by simp; omega, by rw [HC.out, HS.out, str_app]⟩
      case measure => simp [intOf]; omega
    · go_wp2
      obtain rfl : k = 4 := by omega
      go_ret
      exact ⟨rfl, rfl⟩
theorem refHexI (n : Int) (w : World) (h0 : 0 ≤ n) (h1 : n < 65536) :
    Calls Try.prog 29 #[.int .i64 n] w fun e w' => e = .returned (.string ⟨(hexL n.toNat 4).toArray⟩) ∧ w = w' := by
  obtain ⟨n, rfl⟩ := Int.eq_ofNat_of_zero_le h0
  exact refHex n w (by omega)
def sumL (l : List UInt8) : List UInt8 := hexL (ad l).2.toNat 4 ++ hexL (ad l).1.toNat 4
theorem sumL_length (l : List UInt8) : (sumL l).length = 8 := by simp [sumL, hexL_length]
set_option maxHeartbeats 400000 in
theorem refSum (s : ByteArray) (w : World) (hs : s.size ≤ maxLen) :
    Calls Try.prog 27 #[.string s] w fun e w' => e = .returned (.string ⟨(sumL s.data.toList).toArray⟩) ∧ w = w' := by
  unfold maxLen at hs
  go_enter Try.func27, Try.ntmps27
  go_wp2
  go_loop [3, 4, 5] (fun a b i => ∃ k : Nat, k ≤ s.size ∧ i = .int .i64 k ∧ a = .int .i64 (ad (s.data.toList.take k)).1 ∧ b = .int .i64 (ad (s.data.toList.take k)).2) (fun _ _ i => s.size - (intOf i).toNat)
  case atStart => exact ⟨0, Nat.zero_le _, rfl, rfl, rfl⟩
  case round =>
    obtain ⟨k, hk, rfl, rfl, rfl⟩ := hrel
    have hb := ad_bd (s.data.toList.take k)
    by_cases hlt : k < s.size
    · have hc := s[k].toNat_lt
      have hsn := Lib.hid ((congrArg ad (take_snoc s k hlt)).trans (ad_snoc _ _))
      go_wp2
      go_round
      case rel => exact ⟨k + 1, by omega, by go_num, by rw [hsn.out]; rfl, by rw [hsn.out]; rfl⟩
      case measure => simp [intOf]; omega
    · obtain rfl : k = s.size := by omega
      have e : s.data.toList.take s.size = s.data.toList := List.take_of_length_le (by simp)
      rw [e] at hb
      rw [e]
      have hl1 := hexL_length (ad s.data.toList).1.toNat 4
      have hl2 := hexL_length (ad s.data.toList).2.toNat 4
      go_wp2_with (go_at_call 29; refine (refHexI _ _ (by omega) (by omega)).mono ?_; rintro e w' ⟨rfl, rfl⟩)
      go_ret
      exact ⟨ret_str (str_app _ _), rfl⟩

def pre2 (b a : Nat) : Nat → List UInt8
  | 0 => []
  | 1 => hexL b 4
  | _ => hexL b 4 ++ hexL a 4
def nth2 (b a : Nat) : Nat → Nat
  | 0 => b
  | _ => a
theorem pre2_succ (b a j : Nat) (h : j < 2) : pre2 b a (j + 1) = pre2 b a j ++ hexL (nth2 b a j) 4 := by
  rcases j with _ | _ | j
  · rfl
  · rfl
  · omega
theorem pre2_len (b a j : Nat) : (pre2 b a j).length ≤ 8 := by
  rcases j with _ | _ | j <;> simp [pre2, hexL_length]
theorem run_nth2 (w : World) (b a j : Nat) (h : j < 2) : (Instr.index 53 (.agg #[.int .i64 b, .int .i64 a]) (.int .i64 j)).run Try.prog w = .ok (.int .i64 (nth2 b a j)) w := by
  rcases j with _ | _ | j
  · kernel_rfl
  · kernel_rfl
  · omega
set_option maxHeartbeats 400000 in
theorem sum (s : ByteArray) (w : World) (hs : s.size ≤ maxLen) :
    Calls Try.prog 23 #[.string s] w fun e w' => e = .returned (.string ⟨(sumL s.data.toList).toArray⟩) ∧ ∃ n, w' = w.drewN n := by
  unfold maxLen at hs
  go_enter Try.func23, Try.ntmps23
  go_wp2
  go_loop [3, 4, 11] (fun a b i => ∃ k : Nat, k ≤ s.size ∧ i = .int .i64 k ∧ a = .int .i64 (ad (s.data.toList.take k)).1 ∧ b = .int .i64 (ad (s.data.toList.take k)).2) (fun _ _ i => s.size - (intOf i).toNat)
  case atStart => exact ⟨0, Nat.zero_le _, rfl, rfl, rfl⟩
  case round =>
    obtain ⟨k, hk, rfl, rfl, rfl⟩ := hrel
    have hb := ad_bd (s.data.toList.take k)
    by_cases hlt : k < s.size
    · have hc := s[k].toNat_lt
      have hsn := Lib.hid ((congrArg ad (take_snoc s k hlt)).trans (ad_snoc _ _))
      go_wp2
      go_round
      case rel => exact ⟨k + 1, by omega, by go_num, by rw [hsn.out]; rfl, by rw [hsn.out]; rfl⟩
      case measure => simp [intOf]; omega
    · obtain rfl : k = s.size := by omega
      have e : s.data.toList.take s.size = s.data.toList := List.take_of_length_le (by simp)
      rw [e] at hb
      rw [e]
      have hsl : Hid (sumL s.data.toList = pre2 (ad s.data.toList).2.toNat (ad s.data.toList).1.toNat 2) := rfl
      obtain ⟨a, ha⟩ := Int.eq_ofNat_of_zero_le hb.1
      obtain ⟨b, hb'⟩ := Int.eq_ofNat_of_zero_le hb.2.2.1
      rw [ha, hb'] at hb hsl ⊢
      simp only [Int.toNat_natCast] at hsl
      clear ha hb'
      clear e
      go_wp2
      go_loopw [2, 29] (fun o i wr => ∃ j : Nat, j ≤ 2 ∧ i = .int .i64 j ∧ o = .string ⟨(pre2 b a j).toArray⟩ ∧ ∃ n, wr = w.drewN n) (fun _ i _ => 2 - (intOf i).toNat)
      case atStart => exact ⟨0, by omega, rfl, rfl, 0, rfl⟩
      case round =>
        obtain ⟨j, hj, rfl, rfl, nd, rfl⟩ := hrel
        by_cases hj2 : j < 2
        · have hidx : ∀ nq, (Instr.index 53 (.agg #[.int .i64 b, .int .i64 a]) (.int .i64 j)).run Try.prog (w.drewN nq) = .ok (.int .i64 (nth2 b a j)) (w.drewN nq) := fun nq => run_nth2 _ b a j hj2
          have hn : nth2 b a j < 65536 := by
            rcases j with _ | j <;> simp [nth2] <;> omega
          have hps0 := pre2_succ b a j hj2
          generalize nth2 b a j = n at *
          have hpl := pre2_len b a j
          have hps := Lib.hid hps0
          clear hps0
          go_wp2
          clear hidx
          go_loopw [2, 8] (fun o t wr => ∃ k : Nat, k ≤ 4 ∧ t = .int .i64 (12 - 4 * (k : Int)) ∧ o = .string ⟨(pre2 b a j ++ hexL n k).toArray⟩ ∧ ∃ n, wr = w.drewN n) (fun _ t _ => (intOf t + 4).toNat)
          case atStart => exact ⟨0, by omega, rfl, by simp [hexL], nd, rfl⟩
          case round =>
            obtain ⟨k, hk, rfl, rfl, md, rfl⟩ := hrel
            by_cases hlt : k < 4
            · have hlen := hexL_length n k
              have hx : n / 2 ^ (12 - 4 * k) = n / 16 ^ (3 - k) := by
                rw [show 12 - 4 * k = 4 * (3 - k) by omega, Nat.pow_mul]
              have hlt2 : n / 16 ^ (3 - k) < 65536 := Nat.lt_of_le_of_lt (Nat.div_le_self _ _) hn
              have hb : bits .and .i64 ((n : Int) / 2 ^ (12 - 4 * k)) 15 = ((n / 16 ^ (3 - k) % 16 : Nat) : Int) := by
                rw [← i64_and15 _ hlt2, ← hx]; simp
              have hs := hexL_snoc n k
              generalize hd : n / 16 ^ (3 - k) % 16 = d at *
              have hd16 : d < 16 := by omega
              have HS := Lib.hid hs
              have HC := Lib.hid (hex_cut d hd16)
              clear hx hs hd hlt2
              go_wp2
              go_quiet (fail)
              go_wp2
              go_roundw
              case rel => exact ⟨k + 1, by omega, by simp; omega, by rw [HC.out, HS.out, str_app, List.append_assoc], _, rfl⟩
              case measure => simp [intOf]; omega
            · obtain rfl : k = 4 := by omega
              go_wp2
              go_roundw
              case rel => exact ⟨j + 1, by omega, by go_num, by rw [hps.out], md, rfl⟩
              case measure => simp [intOf]; omega
        · obtain rfl : j = 2 := by omega
          go_wp2
          go_ret
          exact ⟨ret_str (by rw [hsl.out]), nd, rfl⟩

end Go.Proofs.Ytekgcedbejafeaa
