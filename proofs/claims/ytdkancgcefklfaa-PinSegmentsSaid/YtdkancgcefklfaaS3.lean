/-
  What the printed functions of chapter 18 compute: Put, Insert, Delete of the program.
-/
import Derived.Test.YtdkancgcefklfaaS2
namespace Go.Proofs.Ytdkancgcefklfaa

theorem take_put' {α : Type} (l : List α) (i : Nat) (x : α) (h : i < l.length) : (put' l (i : Int) x).take (i + 1) = l.take i ++ [x] := by
  unfold put'
  simp only [Int.toNat_natCast]
  rw [List.take_set, List.take_succ_eq_append_getElem h, List.set_append_right _ _ (by simp; omega)]
  simp [Nat.min_eq_left (Nat.le_of_lt h)]
theorem drop_put' {α : Type} (l : List α) (i j : Nat) (x : α) (h : i < j) : (put' l (i : Int) x).drop j = l.drop j := by
  unfold put'
  simp only [Int.toNat_natCast]
  rw [List.drop_set, if_pos h]
theorem at'_drop {α : Type} [Inhabited α] {l m : List α} {j : Nat} (h : l.drop j = m.drop j) (hl : l.length = m.length) (hj : j < l.length) : at' l (j : Int) = at' m (j : Int) := by
  rw [drop_at hj, drop_at (by omega : j < m.length)] at h
  injection h
theorem drop_next {α : Type} {l m : List α} {j : Nat} (h : l.drop j = m.drop j) : l.drop (j + 1) = m.drop (j + 1) := by
  rw [← List.drop_drop, ← List.drop_drop, h]
theorem first1 (g : Pin → Bool) : ∀ l : List Pin, l.any g = true → (l.takeWhile fun p => !g p).length < l.length ∧ g (at' l ((l.takeWhile fun p => !g p).length : Int)) = true ∧ ∀ p ∈ l.take (l.takeWhile fun p => !g p).length, g p = false
  | [], h => by cases h
  | x :: r, h => by
    cases hx : g x
    · rw [List.any_cons, hx, Bool.false_or] at h
      obtain ⟨h1, h2, h3⟩ := first1 g r h
      have : (List.takeWhile (fun p => !g p) (x :: r)).length = (r.takeWhile fun p => !g p).length + 1 := by simp [hx]
      rw [this]
      refine ⟨by simp; omega, ?_, fun p hp => ?_⟩
      · rw [at'_get (by simp; omega)]
        rw [at'_get h1] at h2
        simpa using h2
      · rw [List.take_succ_cons] at hp
        rcases List.mem_cons.1 hp with rfl | hp
        · exact hx
        · exact h3 p hp
    · have : (List.takeWhile (fun p => !g p) (x :: r)).length = 0 := by simp [hx]
      rw [this]
      exact ⟨by simp, hx, fun p hp => by simp at hp⟩
theorem del1 (L : List Pin) (n : Nat) (f : Pin → Option Bool) (g : Pin → Bool) (hf : ∀ p ∈ L, f p = some (g p)) (hn : n ≤ L.length) (hL : L.length ≤ 100000) :
    ∃ k : Nat, ∃ M : List Pin, slices_DeleteFunc L n f = some ((k : Int), M) ∧ k ≤ n ∧ M.length = L.length ∧ M.take k = (L.take n).filter fun p => !g p := by
  have hc := (cont1 (L.take n) f g (fun p hp => hf p (List.mem_of_mem_take hp)) (by simp; omega)).2
  unfold slices_DeleteFunc
  rw [chk_pos (by omega), sub_take, Int.toNat_natCast, hc, Option.bind_some]
  cases ha : (L.take n).any g
  · rw [if_pos (by rw [if_neg (by simp)])]
    refine ⟨n, L, rfl, Nat.le_refl _, rfl, ?_⟩
    rw [List.filter_eq_self.2]
    intro p hp
    rw [List.any_eq_false] at ha
    simpa using ha p hp
  · rw [if_pos (rfl : true = true)]
    have hfst := first1 g (L.take n) ha
    obtain ⟨i, hi⟩ : ∃ i, i = ((L.take n).takeWhile fun p => !g p).length := ⟨_, rfl⟩
    rw [← hi, List.length_take, List.take_take] at hfst
    obtain ⟨hin, hgi, hf0⟩ := hfst
    have hin : i < n := by omega
    have hgi : g (at' L (i : Int)) = true := by
      rw [at'_get (by simp; omega), List.getElem_take, ← at'_get (by omega)] at hgi
      exact hgi
    rw [Nat.min_eq_left (by omega)] at hf0
    have hfi : (L.take i).filter (fun p => !g p) = L.take i := by
      rw [List.filter_eq_self]
      intro p hp
      simp [hf0 p hp]
    rw [← hi, if_neg (by omega), chk_pos (by omega)]
    obtain ⟨r, h1, v, l, rfl, h2, h3, h4⟩ := loop_upto (f := slices_DeleteFunc_L1 n f) (fun m s => ∃ (v : Nat) (l : List Pin), s = ((v : Int), ((i + 1 + m : Nat) : Int), l) ∧ v < i + 1 + m ∧ l.length = L.length ∧ l.take v = (L.take (i + 1 + m)).filter (fun p => !g p) ∧ l.drop (i + 1 + m) = L.drop (i + 1 + m))
      (fun r => ∃ (v : Nat) (l : List Pin), r = ((v : Int), l) ∧ v < n ∧ l.length = L.length ∧ l.take v = (L.take n).filter fun p => !g p) (n - (i + 1)) (s := ((i : Int), ((i : Int) + 1), L)) (by omega)
      ⟨i, L, by simp, by omega, rfl, by
        rw [Nat.add_zero, take_at (by omega), List.filter_append, hfi, List.filter_cons, hgi]; simp, rfl⟩
      (fun m s hm hj => by
        obtain ⟨v, l, rfl, hv, hl, ht, hd⟩ := hj
        have hj2 : i + 1 + m < L.length := by omega
        unfold slices_DeleteFunc_L1
        simp -implicitDefEqProofs only
        rw [chk_pos (by omega), if_pos (by omega), chk_pos (by omega), at'_drop hd hl (by omega), hf _ (at'_mem (by omega) (by omega)), Option.bind_some]
        cases hg : g (at' L ((i + 1 + m : Nat) : Int))
        · rw [if_neg (by simp), chk_pos (by omega), Option.bind_some, chk_pos (by omega), Option.bind_some]
          simp -implicitDefEqProofs only
          have hvl : (v : Int) + 1 ≤ 100000 := by omega
          rw [chk_pos (by omega)]
          refine ⟨_, rfl, v + 1, put' l (v : Int) (at' L ((i + 1 + m : Nat) : Int)), Prod.ext (by simp) (Prod.ext (by simp -implicitDefEqProofs only; omega) rfl), by omega, by simp [hl], ?_, ?_⟩
          · rw [take_put' _ _ _ (by omega), ht, show i + 1 + (m + 1) = i + 1 + m + 1 by omega, take_at hj2, List.filter_append, List.filter_cons, hg]
            simp
          · rw [drop_put' _ _ _ _ (by omega), show i + 1 + (m + 1) = i + 1 + m + 1 by omega]
            exact drop_next hd
        · rw [if_pos rfl, Option.bind_some]
          simp -implicitDefEqProofs only
          rw [chk_pos (by omega)]
          refine ⟨_, rfl, v, l, Prod.ext rfl (Prod.ext (by simp -implicitDefEqProofs only; omega) rfl), by omega, hl, ?_, ?_⟩
          · rw [ht, show i + 1 + (m + 1) = i + 1 + m + 1 by omega, take_at hj2, List.filter_append, List.filter_cons, hg]
            simp
          · rw [show i + 1 + (m + 1) = i + 1 + m + 1 by omega]
            exact drop_next hd)
      (fun s hj => by
        obtain ⟨v, l, rfl, hv, hl, ht, hd⟩ := hj
        rw [show i + 1 + (n - (i + 1)) = n by omega] at *
        unfold slices_DeleteFunc_L1
        simp -implicitDefEqProofs only
        rw [chk_pos (by omega), if_neg (by omega)]
        exact ⟨_, rfl, v, l, rfl, hv, hl, ht⟩)
    rw [h1, Option.bind_some]
    simp -implicitDefEqProofs only
    rw [chk_pos (by omega), chk_pos (by omega), chk_pos (by omega), Option.bind_some, chk_pos, chk_pos (by omega)]
    · refine ⟨v, _, rfl, by omega, ?_, ?_⟩
      · unfold over; simp; omega
      · unfold over
        simp only [Int.toNat_natCast]
        rw [List.append_assoc, List.take_append_of_le_length (by simp; omega), List.take_take, Nat.min_self, h4]
    · unfold over; simp; omega
theorem without1 (x : List Pin) (f : Pin → Option Bool) (g : Pin → Bool) (hf : ∀ p ∈ x, f p = some (g p)) (hl : x.length ≤ 100000) :
    ∃ k : Nat, ∃ M : List Pin, pin_without x f = some ((k : Int), M) ∧ k ≤ M.length ∧ M.length = x.length ∧ M.take k = x.filter fun p => !g p := by
  unfold pin_without
  have ho : over (List.replicate ((x.length : Int)).toNat (⟨0, 0, 0⟩ : Pin)) 0 (x.take ((x.length : Int)).toNat) = x := by
    unfold over; simp
  obtain ⟨k, M, h1, h2, h3, h4⟩ := del1 x x.length f g hf (Nat.le_refl _) hl
  rw [List.take_length] at h4
  rw [chk_pos (by omega), Option.bind_some, chk_pos (by simp), Option.bind_some, ho]
  have h := loop_all (f := pin_without_L1 f) (fun j => match j with | 0 => ((x.length : Int), 0, x) | j + 1 => ((k : Int), ((j + 1 : Nat) : Int), M)) 1 ((k : Int), M) (by omega) (fun j hj => by
    have : j = 0 := by omega
    subst this
    unfold pin_without_L1
    simp -implicitDefEqProofs only
    rw [if_pos (by omega), chk_pos (by simp), h1, Option.bind_some, chk_pos (by omega)]; rfl) (by unfold pin_without_L1; simp) (s := ((x.length : Int), 0, x)) rfl
  rw [h]
  exact ⟨k, M, rfl, by omega, h3, h4⟩
theorem moved1 (L : List Pin) (n : Nat) (a b : Int) (hn : n ≤ L.length) (hL : L.length ≤ 100000) (hs : Sm8 (L.take n)) (hb : -1000 ≤ b ∧ b ≤ 1000) :
    ∃ M : List Pin, pin_moved L n a b = some ((n : Int), M) ∧ M.length = L.length ∧ M.take n = moved (L.take n) a b := by
  unfold pin_moved
  rw [chk_pos (by omega)]
  obtain ⟨r, h1, h2, h3⟩ := loop_upto (f := pin_moved_L1 n a b) (fun m s => ∃ l : List Pin, s = ((m : Int), l) ∧ l.length = L.length ∧ l.take m = moved (L.take m) a b ∧ l.drop m = L.drop m) (fun M => M.length = L.length ∧ M.take n = moved (L.take n) a b) n (s := (0, L)) (by omega)
    ⟨L, rfl, rfl, by simp [moved], rfl⟩
    (fun m s hm hj => by
      obtain ⟨l, rfl, hl, ht, hd⟩ := hj
      have hat := at'_drop hd hl (by omega)
      have hsm := hs (at' L (m : Int)) (by
        have := at'_mem (l := L.take n) (i := (m : Int)) (by omega) (by simp; omega)
        rwa [at'_get (by simp; omega), List.getElem_take, ← at'_get (by omega)] at this)
      have hmv : moved (L.take (m + 1)) a b = moved (L.take m) a b ++ [if a ≤ (at' L (m : Int)).From then up b (at' L (m : Int)) else at' L (m : Int)] := by
        rw [take_at (by omega)]; simp [moved]
      unfold pin_moved_L1
      simp -implicitDefEqProofs only
      rw [if_pos (by omega), chk_pos (by omega), chk_pos (by omega), hat]
      by_cases h1 : a ≤ (at' L (m : Int)).From
      · have e1 : at' (put' l (m : Int) (⟨(at' L (m : Int)).From + b, (at' L (m : Int)).To, (at' L (m : Int)).Word⟩ : Pin)) (m : Int) = ⟨(at' L (m : Int)).From + b, (at' L (m : Int)).To, (at' L (m : Int)).Word⟩ := by
          rw [at'_get (by simp; omega)]; unfold put'; simp
        have e2 : ∀ (l : List Pin) x y, put' (put' l (m : Int) x) (m : Int) y = put' l (m : Int) y := fun l x y => by unfold put'; simp
        rw [if_pos h1, chk_pos (by omega), Option.bind_some, chk_pos (by simp; omega), e1, chk_pos (by simp -implicitDefEqProofs only; omega), Option.bind_some, e2]
        rw [Option.bind_some, chk_pos (by omega)]
        refine ⟨_, rfl, _, by simp; rfl, by simp [hl], ?_, ?_⟩
        · rw [take_put' _ _ _ (by omega), ht, hmv, if_pos h1]; rfl
        · rw [drop_put' _ _ _ _ (by omega)]; exact drop_next hd
      · rw [if_neg h1, Option.bind_some, chk_pos (by omega)]
        refine ⟨_, rfl, l, by simp, hl, ?_, drop_next hd⟩
        rw [take_at (by omega), ht, hmv, if_neg h1, hat])
    (fun s hj => by
      obtain ⟨l, rfl, hl, ht, hd⟩ := hj
      refine ⟨l, ?_, hl, ht⟩
      unfold pin_moved_L1
      simp)
  rw [h1]
  exact ⟨r, rfl, h2, h3⟩
end Go.Proofs.Ytdkancgcefklfaa
