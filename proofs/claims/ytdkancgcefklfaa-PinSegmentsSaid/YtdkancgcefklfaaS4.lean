/-
  What the printed functions of chapter 18 compute: Put, Insert, Delete of the program; lattices; ways.
-/
import Derived.Test.YtdkancgcefklfaaS3
namespace Go.Proofs.Ytdkancgcefklfaa

theorem small_filter {l : List Pin} (g : Pin → Bool) (h : Sm8 l) : Sm8 (l.filter g) := fun p hp => h p ((List.mem_filter.1 hp).1)
theorem insert2 (l : List Pin) (a : Int) (hl : l.length ≤ 100000) (hs : Sm8 l) : pin_Insert l a = some (insertL l a) := by
  unfold pin_Insert
  obtain ⟨k, M, h1, h2, h3, h4⟩ := without1 l (fun a0 => pin_Insert_1 a0 a) (fun p => decide (p.From < a) && decide (a < p.To)) (fun p _ => by
    unfold pin_Insert_1; by_cases h : p.From < a <;> simp [h]) hl
  obtain ⟨M', k1, k2, k3⟩ := moved1 M k a 1 h2 (by omega) (by rw [h4]; exact small_filter _ hs) (by omega)
  rw [h1, Option.bind_some, k1, Option.bind_some, chk_pos (by simp -implicitDefEqProofs only; omega), sub_take, Int.toNat_natCast, k3, h4]
  rfl
theorem delete2 (l : List Pin) (a : Int) (hl : l.length ≤ 100000) (hs : Sm8 l) (ha : -1000 ≤ a ∧ a ≤ 1000) : pin_Delete l a = some (deleteL l a) := by
  unfold pin_Delete
  obtain ⟨k, M, h1, h2, h3, h4⟩ := without1 l (fun a0 => pin_Delete_1 a0 a) (fun p => decide (p.From ≤ a) && decide (a < p.To)) (fun p _ => by
    unfold pin_Delete_1; by_cases h : p.From ≤ a <;> simp [h]) hl
  obtain ⟨M', k1, k2, k3⟩ := moved1 M k (a + 1) (-1) h2 (by omega) (by rw [h4]; exact small_filter _ hs) (by omega)
  rw [h1, Option.bind_some, chk_pos (by omega), k1, Option.bind_some, chk_pos (by simp -implicitDefEqProofs only; omega), sub_take, Int.toNat_natCast, k3, h4]
  rfl
theorem sorted_drop {l : List Pin} : ∀ {e : Int} (k : Nat), Sorted e l → ∀ q ∈ l.drop k, e ≤ q.From := fun {_e} _k h q hq => (sorted_mem h q (List.mem_of_mem_drop hq)).1
theorem sorted_step : ∀ {l : List Pin} {e : Int}, Sorted e l → ∀ a b : Nat, a < b → b < l.length → (at' l (a : Int)).From < (at' l (b : Int)).From
  | [], _, _, _, _, _, h => by cases h
  | p :: r, e, ⟨h1, h2, h3⟩, a, b, hab, hb => by
    have hb' : b - 1 < r.length := by simp at hb; omega
    rw [at'_get hb, at'_get (by omega)]
    obtain ⟨b', rfl⟩ : ∃ b', b = b' + 1 := ⟨b - 1, by omega⟩
    cases a with
    | zero =>
      have := (sorted_mem h3 r[b'] (List.getElem_mem _)).1
      simp only [List.getElem_cons_zero, List.getElem_cons_succ]
      omega
    | succ a =>
      have := sorted_step h3 a b' (by omega) (by simpa using hb')
      have hb2 : b' < r.length := by simpa using hb'
      rw [at'_get (k := a) (by omega), at'_get hb2] at this
      simpa using this
theorem cmp1 (a b : Pin) : pin_Put_2 a b = some (if a.From < b.From then -1 else if b.From < a.From then 1 else 0) := by
  unfold pin_Put_2 cmp_Compare cmp_isNaN
  by_cases h1 : a.From < b.From
  · simp [h1]
  · by_cases h2 : b.From < a.From <;> simp [h1, h2]
theorem bs1 (l : List Pin) (p : Pin) {e : Int} (hs : Sorted e l) (hl : l.length ≤ 100000) : ∃ i : Nat, ∃ b : Bool, slices_BinarySearchFunc l p pin_Put_2 = some ((i : Int), b) ∧ i ≤ l.length ∧ (∀ q ∈ l.take i, q.From < p.From) ∧ ∀ q ∈ l.drop i, p.From ≤ q.From := by
  unfold slices_BinarySearchFunc
  obtain ⟨r, h1, i, rfl, h2, h3, h4⟩ := loop_inv (f := slices_BinarySearchFunc_L1 l p pin_Put_2) (fun s => ∃ a b : Nat, s = ((a : Int), (b : Int)) ∧ a ≤ b ∧ b ≤ l.length ∧ (∀ k : Nat, k < a → (at' l (k : Int)).From < p.From) ∧ ∀ k : Nat, b ≤ k → k < l.length → p.From ≤ (at' l (k : Int)).From)
    (fun s => (s.2 - s.1).toNat) (fun r => ∃ i : Nat, r = (i : Int) ∧ i ≤ l.length ∧ (∀ k : Nat, k < i → (at' l (k : Int)).From < p.From) ∧ ∀ k : Nat, i ≤ k → k < l.length → p.From ≤ (at' l (k : Int)).From) (s := (0, (l.length : Int)))
    ⟨0, l.length, rfl, by omega, Nat.le_refl _, fun k hk => by omega, fun k h1 h2 => by omega⟩ (by simp; omega) (fun s hj => by
      obtain ⟨a, b, rfl, hab, hb, hlo, hhi⟩ := hj
      unfold slices_BinarySearchFunc_L1
      simp -implicitDefEqProofs only
      by_cases h : a < b
      · have hm : Int.fdiv ((a : Int) + (b : Int)) 2 = (((a + b) / 2 : Nat) : Int) := by
          rw [Int.fdiv_eq_ediv_of_nonneg _ (by omega)]; omega
        have hm2 : a ≤ (a + b) / 2 ∧ (a + b) / 2 < b := by omega
        rw [if_pos (by omega), hm]
        generalize (a + b) / 2 = m at *
        left
        rw [chk_pos (by omega), chk_pos (by omega), chk_pos (by omega), chk_pos (by omega), cmp1, Option.bind_some]
        by_cases hc : (at' l (m : Int)).From < p.From
        · rw [if_pos hc, if_pos (by omega), chk_pos (by omega)]
          refine ⟨_, rfl, ⟨m + 1, b, by simp, by omega, hb, fun k hk => ?_, hhi⟩, by simp -implicitDefEqProofs only; omega⟩
          by_cases hkm : k = m
          · subst hkm; exact hc
          · have := sorted_step hs k m (by omega) (by omega)
            omega
        · rw [if_neg hc, if_neg (by split <;> omega)]
          refine ⟨_, rfl, ⟨a, m, rfl, by omega, by omega, hlo, fun k h1 h2 => ?_⟩, by simp -implicitDefEqProofs only; omega⟩
          by_cases hkm : k = m
          · subst hkm; omega
          · have := sorted_step hs m k (by omega) (by omega)
            omega
      · right
        rw [if_neg (by omega)]
        exact ⟨_, rfl, a, rfl, by omega, hlo, fun k h1 h2 => hhi k (by omega) h2⟩)
  rw [h1, Option.bind_some]
  have fin : (∀ q ∈ l.take i, q.From < p.From) ∧ ∀ q ∈ l.drop i, p.From ≤ q.From := by
    constructor
    · intro q hq
      obtain ⟨k, hk, rfl⟩ := List.getElem_of_mem hq
      have hk' : k < i ∧ k < l.length := by simp at hk; omega
      rw [List.getElem_take, ← at'_get hk'.2]
      exact h3 k hk'.1
    · intro q hq
      obtain ⟨k, hk, rfl⟩ := List.getElem_of_mem hq
      have hk' : i + k < l.length := by simp at hk; omega
      rw [List.getElem_drop, ← at'_get hk']
      exact h4 (i + k) (by omega) hk'
  by_cases h : (i : Int) < (l.length : Int)
  · rw [if_pos h, chk_pos (by omega), cmp1, Option.bind_some, Option.bind_some]
    exact ⟨i, _, rfl, h2, fin.1, fin.2⟩
  · rw [if_neg h, Option.bind_some]
    exact ⟨i, _, rfl, h2, fin.1, fin.2⟩
theorem ins_split (p : Pin) : ∀ (l m : List Pin), (∀ q ∈ l, q.From < p.From) → (∀ q ∈ m, p.From ≤ q.From) → ins p (l ++ m) = l ++ p :: m
  | [], m, _, h => ins_front h
  | x :: l, m, h1, h2 => by
    rw [List.cons_append, ins, if_neg (by have := h1 x (by simp); omega), ins_split p l m (fun q hq => h1 q (by simp [hq])) h2]
    rfl
theorem put2 (l : List Pin) (p : Pin) (n : Int) (hl : l.length ≤ 100000) : pin_Put l p n = some (if validB l n && validB [p] n then (putL l p, 0) else ([], 180)) := by
  unfold pin_Put
  rw [valid2 l n hl, valid2 [p] n (by simp)]
  cases hv : validB l n
  · simp
  cases hp : validB [p] n
  · simp
  rw [Option.bind_some, if_pos rfl, Option.bind_some, Option.bind_some, if_neg (by simp)]
  obtain ⟨k, M, h1, h2, h3, h4⟩ := without1 l (fun a0 => pin_Put_1 a0 p) (fun q => ov p q) (fun q _ => by unfold pin_Put_1; rw [ov2]; rfl) hl
  have hs : Sorted 0 (l.filter fun q => !ov p q) := sorted_filter _ (valid_sorted hv)
  have hfl : (l.filter fun q => !ov p q).length = k := by rw [← h4]; simp; omega
  obtain ⟨i, b, k1, k2, k3, k4⟩ := bs1 (l.filter fun q => !ov p q) p hs (by omega)
  rw [h1, Option.bind_some]
  simp -implicitDefEqProofs only
  rw [chk_pos (by omega), sub_take, Int.toNat_natCast, h4, k1, Option.bind_some]
  simp -implicitDefEqProofs only
  have hil : (insL M (k : Int) (i : Int) p).length = k + 1 := by
    unfold insL; simp; omega
  rw [chk_pos (by omega), chk_pos (by omega), sub_take]
  have : (insL M (k : Int) (i : Int) p).take ((k : Int) + 1).toNat = putL l p := by
    rw [List.take_of_length_le (by omega)]
    unfold insL putL
    have e1 : M.take i = (l.filter fun q => !ov p q).take i := by rw [← h4, List.take_take, Nat.min_eq_left (by omega)]
    rw [Int.toNat_natCast, Int.toNat_natCast, h4, e1, ← ins_split p _ _ k3 k4, List.take_append_drop]
  rw [this]; simp
end Go.Proofs.Ytdkancgcefklfaa
