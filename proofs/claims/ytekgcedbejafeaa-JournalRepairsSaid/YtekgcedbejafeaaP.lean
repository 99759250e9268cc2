/-
  The plain law of journals: what is read of bytes, and when.
-/
import Derived.Test.YtekgcedbejafeaaI
namespace Go.Proofs.Ytekgcedbejafeaa
open Go.RowKit

theorem hexd_ne : ∀ d : Nat, d < 16 → hexd d ≠ 10 ∧ hexd d ≠ 32 := by decide +kernel
theorem hexL_ne (n k : Nat) : ∀ c ∈ hexL n k, c ≠ 10 := by
  intro c hc
  simp only [hexL, List.mem_map] at hc
  obtain ⟨i, _, rfl⟩ := hc
  exact (hexd_ne _ (Nat.mod_lt _ (by omega))).1
theorem sumL_ne (l : List UInt8) : ∀ c ∈ sumL l, c ≠ 10 := by
  intro c hc
  rcases List.mem_append.1 hc with h | h <;> exact hexL_ne _ _ c h
theorem lineB_ne {l : List UInt8} (h : lineB l = true) : ∀ c ∈ l, c ≠ 10 := by
  intro c hc e
  simp only [lineB, Bool.and_eq_true, List.all_eq_true] at h
  have := h.1 c hc
  subst e
  simp [okb] at this
theorem idxOf_app (a b : List UInt8) (h : ∀ c ∈ a, c ≠ 10) : (a ++ 10 :: b).idxOf 10 = a.length := by
  rw [List.idxOf_append, if_neg (fun hm => h _ hm rfl)]
  simp
theorem idx_no {a : List UInt8} (h : ∀ c ∈ a, c ≠ 10) : ¬ a.idxOf 10 < a.length := by
  intro hl
  exact h _ (List.getElem_mem hl) (List.getElem_idxOf hl)

theorem entry_split (ln rest : List UInt8) : entryL ln ++ rest = (sumL ln ++ 32 :: ln) ++ 10 :: rest := by simp [entryL]
theorem head_ne {ln : List UInt8} (h : lineB ln = true) : ∀ c ∈ sumL ln ++ 32 :: ln, c ≠ 10 := by
  intro c hc
  rcases List.mem_append.1 hc with h1 | h1
  · exact sumL_ne ln c h1
  · rcases List.mem_cons.1 h1 with rfl | h1
    · decide
    · exact lineB_ne h c h1
theorem entry_idx {ln : List UInt8} (h : lineB ln = true) (rest : List UInt8) : (entryL ln ++ rest).idxOf 10 = ln.length + 9 := by
  rw [entry_split, idxOf_app _ _ (head_ne h)]; simp [sumL_length]; omega
theorem entry_lineOf (ln rest : List UInt8) : lineOf (entryL ln ++ rest) (ln.length + 9) = ln := by
  rw [entry_split, lineOf, List.take_left' (by simp [sumL_length]; omega)]
  rw [show sumL ln ++ 32 :: ln = (sumL ln ++ [32]) ++ ln by simp]
  exact List.drop_left' (by simp [sumL_length])
theorem entry_take8 (ln rest : List UInt8) : (entryL ln ++ rest).take 8 = sumL ln := by
  rw [entry_split, List.append_assoc]; exact List.take_left' (sumL_length ln)
theorem entry_at8 (ln rest : List UInt8) : (entryL ln ++ rest)[8]? = some 32 := by
  rw [entry_split, List.append_assoc, List.getElem?_append_right (by simp [sumL_length])]; simp [sumL_length]

theorem parse_of_entry {ln : List UInt8} (h : lineB ln = true) (rest : List UInt8) : parse (entryL ln ++ rest) = (ln, true) := by
  have hl := entryL_length ln
  rw [parse_at (entry_idx h rest) (by rw [List.length_append]; omega) (by omega) (entry_at8 ln rest), entry_lineOf, entry_take8, h]
  simp
theorem lineB_len {l : List UInt8} (h : lineB l = true) : l.length ≤ 200 := by
  simp only [lineB, Bool.and_eq_true, decide_eq_true_eq] at h
  exact h.2
theorem firstS_of_entry {ln : List UInt8} (h : lineB ln = true) (rest : List UInt8) : firstS (entryL ln ++ rest) = (ln, true) := by
  have hl := entryL_length ln
  have h2 := lineB_len h
  rw [firstS_at (entry_idx h rest) (by rw [List.length_append]; omega) (by omega) (by omega), entry_lineOf, h]
  rw [List.take_left' (by omega)]
  simp
theorem split_idx {s : List UInt8} (h : s.idxOf 10 < s.length) (h9 : 9 ≤ s.idxOf 10) (h8 : s[8]? = some 32) : s = s.take 8 ++ 32 :: (lineOf s (s.idxOf 10) ++ 10 :: s.drop (s.idxOf 10 + 1)) := by
  have h10 : s[s.idxOf 10] = 10 := List.getElem_idxOf h
  generalize hi : s.idxOf 10 = i at *
  have e1 : s = s.take i ++ s.drop i := (List.take_append_drop i s).symm
  have e2 : s.drop i = 10 :: s.drop (i + 1) := by rw [List.drop_eq_getElem_cons h, h10]
  have e3 : s.take i = (s.take i).take 9 ++ (s.take i).drop 9 := (List.take_append_drop 9 _).symm
  have e4 : (s.take i).take 9 = s.take 8 ++ [32] := by
    rw [List.take_take, Nat.min_eq_left h9, take_snoc' s 8 (by omega)]
    rw [List.getElem?_eq_getElem (by omega)] at h8
    simp only [Option.some.injEq] at h8
    rw [h8]
  conv => lhs; rw [e1, e2, e3, e4]
  simp [lineOf]
theorem entry_of_parse {s : List UInt8} (h : (parse s).2 = true) : lineB (parse s).1 = true ∧ ∃ rest, s = entryL (parse s).1 ++ rest := by
  by_cases h1 : s.idxOf 10 < s.length
  · by_cases h9 : 9 ≤ s.idxOf 10
    · by_cases h8 : s[8]? = some 32
      · have hp := parse_at rfl h1 h9 h8
        rw [hp] at h ⊢
        simp only [Bool.and_eq_true, beq_iff_eq] at h
        refine ⟨h.1, s.drop (s.idxOf 10 + 1), ?_⟩
        have := split_idx h1 h9 h8
        rw [← h.2] at this
        simpa [entryL] using this
      · rw [parse_no3 h8] at h; cases h
    · rw [parse_no2 h9] at h; cases h
  · rw [parse_no1 h1] at h; cases h
theorem entry_of_firstS {s : List UInt8} (h : (firstS s).2 = true) : lineB (firstS s).1 = true ∧ ∃ rest, s = entryL (firstS s).1 ++ rest := by
  unfold firstS at h ⊢
  split at h
  · rename_i hc
    rw [if_pos hc]
    simp only [Bool.and_eq_true, beq_iff_eq] at h
    refine ⟨h.1, s.drop (s.idxOf 10 + 1), ?_⟩
    dsimp only
    rw [h.2, List.take_append_drop]
  · cases h
theorem first_parse (s : List UInt8) : (firstS s).2 = (parse s).2 ∧ ((parse s).2 = true → (firstS s).1 = (parse s).1) := by
  cases hp : (parse s).2 with
  | true =>
    obtain ⟨h1, rest, h2⟩ := entry_of_parse hp
    have := firstS_of_entry h1 rest
    rw [← h2] at this
    rw [this]; simp
  | false =>
    refine ⟨?_, by simp⟩
    cases hf : (firstS s).2 with
    | false => rfl
    | true =>
      obtain ⟨h1, rest, h2⟩ := entry_of_firstS hf
      have := parse_of_entry h1 rest
      rw [← h2] at this
      rw [this] at hp; cases hp
theorem readR_eq : ∀ (f : Nat) (s : List UInt8), readR f s = readP f s
  | 0, _ => rfl
  | f + 1, s => by
    obtain ⟨h1, h2⟩ := first_parse s
    cases hp : (parse s).2 with
    | true => rw [readP_yes hp, readR_yes (by rw [h1, hp]), h2 hp, readR_eq f]
    | false => rw [readP_no hp, readR_no (by rw [h1, hp])]

/-- lines, each of which is one -/
def Lines (ls : List (List UInt8)) : Prop := ∀ l ∈ ls, lineB l = true
theorem readP_entry {f : Nat} {ln : List UInt8} (h : lineB ln = true) (rest : List UInt8) : readP (f + 1) (entryL ln ++ rest) = ln :: readP f rest := by
  have hp := parse_of_entry h rest
  rw [readP_yes (by rw [hp]), hp]
  congr 2
  exact List.drop_left' (entryL_length ln)
theorem readP_bytes : ∀ (ls : List (List UInt8)) (f : Nat) (rest : List UInt8), Lines ls → ls.length ≤ f → readP f (bytesL ls ++ rest) = ls ++ readP (f - ls.length) rest
  | [], f, rest, _, _ => by simp [bytesL]
  | l :: r, f, rest, h, hf => by
    obtain ⟨f, rfl⟩ : ∃ g, f = g + 1 := ⟨f - 1, by simp at hf; omega⟩
    have : bytesL (l :: r) ++ rest = entryL l ++ (bytesL r ++ rest) := by simp [bytesL]
    rw [this, readP_entry (h l (by simp)), readP_bytes r f rest (fun x hx => h x (by simp [hx])) (by simp at hf; omega)]
    simp
theorem readP_spec : ∀ (f : Nat) (s : List UInt8), Lines (readP f s) ∧ ∃ rest, s = bytesL (readP f s) ++ rest ∧ (s.length < f * 10 → (parse rest).2 = false)
  | 0, s => ⟨by simp [Lines, readP], s, by simp [readP, bytesL], by omega⟩
  | f + 1, s => by
    cases hp : (parse s).2 with
    | false => rw [readP_no hp]; exact ⟨by simp [Lines], s, by simp [bytesL], fun _ => hp⟩
    | true =>
      obtain ⟨h1, rest, h2⟩ := entry_of_parse hp
      generalize (parse s).1 = ln at *
      subst h2
      rw [readP_entry h1]
      obtain ⟨h3, r2, h4, h5⟩ := readP_spec f rest
      refine ⟨?_, r2, ?_, fun hl => h5 ?_⟩
      · intro x hx
        rcases List.mem_cons.1 hx with rfl | hx
        · exact h1
        · exact h3 x hx
      · have : bytesL (ln :: readP f rest) = entryL ln ++ bytesL (readP f rest) := rfl
        rw [this, List.append_assoc, ← h4]
      · rw [List.length_append, entryL_length] at hl; omega
theorem bytesOf_eq (ls : List (List UInt8)) : bytesOf ls = (bytesL ls).length := by
  induction ls with
  | nil => rfl
  | cons x r ih =>
    have : bytesL (x :: r) = entryL x ++ bytesL r := rfl
    rw [this, List.length_append, ← ih, entryL_length]
    simp [bytesOf]
theorem parse_short {s : List UInt8} (h : s.length < 10) : (parse s).2 = false := by
  cases hp : (parse s).2 with
  | false => rfl
  | true =>
    obtain ⟨_, rest, h2⟩ := entry_of_parse hp
    have := congrArg List.length h2
    rw [List.length_append, entryL_length] at this
    omega

end Go.Proofs.Ytekgcedbejafeaa
