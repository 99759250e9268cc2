/-
  The plain law of journals: torn and damaged ones.
-/
import Derived.Test.YtekgcedbejafeaaM
namespace Go.Proofs.Ytekgcedbejafeaa
open Go.RowKit

theorem readL_app {ls : List (List UInt8)} {rest : List UInt8} (h : Lines ls) (hr : (parse rest).2 = false) : readL (bytesL ls ++ rest) = ls := by
  have hb := bytesOf_ge ls
  rw [bytesOf_eq] at hb
  unfold readL
  rw [readP_bytes ls _ rest h (by rw [List.length_append]; omega), readP_no hr, List.append_nil]
theorem parse_nil : (parse []).2 = false := parse_short (by simp)
theorem readL_bytes {ls : List (List UInt8)} (h : Lines ls) : readL (bytesL ls) = ls := by
  have := readL_app h parse_nil
  rwa [List.append_nil] at this
theorem bytesL_app (a b : List (List UInt8)) : bytesL (a ++ b) = bytesL a ++ bytesL b := by simp [bytesL]
theorem bytesL_one (l : List UInt8) : bytesL [l] = entryL l := by simp [bytesL]
theorem lines_take {ls : List (List UInt8)} (h : Lines ls) (k : Nat) : Lines (ls.take k) := fun x hx => h x (List.mem_of_mem_take hx)
theorem parse_prefix {ln : List UInt8} (h : lineB ln = true) {k : Nat} (hk : k < (entryL ln).length) : (parse ((entryL ln).take k)).2 = false := by
  have e : (entryL ln).take k = (sumL ln ++ 32 :: ln).take k := by
    have : entryL ln = (sumL ln ++ 32 :: ln) ++ [10] := by simp [entryL]
    rw [this, List.take_append_of_le_length]
    rw [this] at hk
    simp at hk ⊢; omega
  rw [e]
  refine parse_no1 (idx_no fun c hc => head_ne h c (List.mem_of_mem_take hc))

theorem whole_spec : ∀ (ls : List (List UInt8)) (n b c : Nat), b ≤ n → ∃ k, k ≤ ls.length ∧ whole ls n b c = (c + k, b + bytesOf (ls.take k)) ∧ b + bytesOf (ls.take k) ≤ n ∧
    ∀ h : k < ls.length, n < b + bytesOf (ls.take k) + ls[k].length + 10
  | [], n, b, c, h => ⟨0, by simp, by simp [whole, bytesOf], by simpa [bytesOf] using h, by simp⟩
  | l :: r, n, b, c, h => by
    by_cases hl : n < b + l.length + 10
    · exact ⟨0, by simp, by simp [whole, hl, bytesOf], by simpa [bytesOf] using h, fun _ => by simpa [bytesOf] using hl⟩
    · obtain ⟨k, h1, h2, h3, h4⟩ := whole_spec r n (b + l.length + 10) (c + 1) (by omega)
      have e : bytesOf ((l :: r).take (k + 1)) = l.length + 10 + bytesOf (r.take k) := by simp [bytesOf]
      refine ⟨k + 1, by simp; omega, ?_, by rw [e]; omega, fun hk => ?_⟩
      · rw [e, whole, if_neg hl, h2]
        simp only [Prod.mk.injEq]
        omega
      · have := h4 (by simpa using hk)
        rw [e]
        simp only [List.getElem_cons_succ]
        omega
theorem bytesL_split (ls : List (List UInt8)) (k : Nat) (h : k < ls.length) : bytesL ls = bytesL (ls.take k) ++ (entryL ls[k] ++ bytesL (ls.drop (k + 1))) := by
  conv => lhs; rw [← List.take_append_drop k ls, List.drop_eq_getElem_cons h, bytesL_app]
  rfl
/-- a beginning of a journal -/
theorem torn {ls : List (List UInt8)} (h : Lines ls) {n : Nat} (hn : n ≤ (bytesL ls).length) :
    readL ((bytesL ls).take n) = ls.take (whole ls n 0 0).1 ∧ bytesOf (ls.take (whole ls n 0 0).1) = (whole ls n 0 0).2 ∧ (whole ls n 0 0).1 ≤ ls.length ∧ (whole ls n 0 0).2 ≤ n ∧ bytesL (ls.take (whole ls n 0 0).1) = (bytesL ls).take (whole ls n 0 0).2 := by
  obtain ⟨k, h1, h2, h3, h4⟩ := whole_spec ls n 0 0 (Nat.zero_le _)
  simp only [Nat.zero_add] at h2 h3 h4
  rw [h2]
  dsimp only
  have hb : bytesL (ls.take k) = (bytesL ls).take (bytesOf (ls.take k)) := by
    conv => rhs; rw [← List.take_append_drop k ls, bytesL_app, bytesOf_eq, List.take_left' (by rw [List.take_append_drop])]
  refine ⟨?_, rfl, h1, h3, hb⟩
  rcases Nat.lt_or_ge k ls.length with hk | hk
  · have hlt := h4 hk
    have e := bytesL_split ls k hk
    have hbo := bytesOf_eq (ls.take k)
    rw [e, List.take_append, ← hbo, List.take_of_length_le (by omega), List.take_append]
    have hel := entryL_length ls[k]
    rw [show n - bytesOf (ls.take k) - (entryL ls[k]).length = 0 by omega, List.take_zero, List.append_nil]
    exact readL_app (lines_take h k) (parse_prefix (h _ (List.getElem_mem _)) (by omega))
  · have hkk : ls.take k = ls := List.take_of_length_le hk
    rw [hkk, bytesOf_eq] at h3
    rw [hkk, List.take_of_length_le h3]
    exact readL_bytes h

def sm (l : List UInt8) : Nat := (l.map (·.toNat)).sum
theorem sm_app (a b : List UInt8) : sm (a ++ b) = sm a + sm b := by simp [sm]
theorem sm_cons (a : UInt8) (b : List UInt8) : sm (a :: b) = a.toNat + sm b := by simp [sm]
theorem sm_le (l : List UInt8) : sm l ≤ l.length * 255 := by
  induction l with
  | nil => simp [sm]
  | cons x r ih => have := x.toNat_lt; rw [sm_cons, List.length_cons]; omega
theorem ad_fst (l : List UInt8) : (ad l).1 = ((1 + sm l : Nat) : Int) % 65521 := by
  have key : ∀ (l : List UInt8) (p : Int × Int) (m : Nat), p.1 = (m : Int) % 65521 → (l.foldl adStep p).1 = ((m + sm l : Nat) : Int) % 65521 := by
    intro l
    induction l with
    | nil => intro p m h; simpa [sm] using h
    | cons x r ih =>
      intro p m h
      rw [List.foldl_cons, ih (adStep p x) (m + x.toNat) (by simp only [adStep, h]; omega), sm_cons]
      congr 2
      omega
  exact key l (1, 0) 1 rfl
theorem hexd_inj : ∀ a : Nat, a < 16 → ∀ b : Nat, b < 16 → hexd a = hexd b → a = b := by decide +kernel
theorem hexL_inj {n m : Nat} (hn : n < 65536) (hm : m < 65536) (h : hexL n 4 = hexL m 4) : n = m := by
  have key : ∀ i, i < 4 → n / 16 ^ (3 - i) % 16 = m / 16 ^ (3 - i) % 16 := by
    intro i hi
    have : (hexL n 4)[i]? = (hexL m 4)[i]? := by rw [h]
    simp only [hexL, List.getElem?_map, List.getElem?_range hi, Option.map_some, Option.some.injEq] at this
    exact hexd_inj _ (Nat.mod_lt _ (by omega)) _ (Nat.mod_lt _ (by omega)) this
  have h0 := key 0 (by omega)
  have h1 := key 1 (by omega)
  have h2 := key 2 (by omega)
  have h3 := key 3 (by omega)
  simp at h0 h1 h2 h3
  omega
theorem sumL_sm {a b : List UInt8} (h : sumL a = sumL b) : (1 + sm a) % 65521 = (1 + sm b) % 65521 := by
  have ha := ad_bd a
  have hb := ad_bd b
  unfold sumL at h
  have h2 := List.append_inj_right h (by simp [hexL_length])
  have := hexL_inj (by omega) (by omega) h2
  have e1 := ad_fst a
  have e2 := ad_fst b
  omega
theorem split_eq {a b a' b' : List UInt8} (h : a ++ 10 :: b = a' ++ 10 :: b') (h1 : ∀ c ∈ a, c ≠ 10) (h2 : ∀ c ∈ a', c ≠ 10) : a = a' := by
  have e1 := idxOf_app a b h1
  have e2 := idxOf_app a' b' h2
  rw [h, e2] at e1
  exact List.append_inj_left h e1.symm
theorem sum_len_eq {a a' x x' : List UInt8} (h : sumL a ++ x = sumL a' ++ x') : sumL a = sumL a' ∧ x = x' := by
  have hl : (sumL a).length = (sumL a').length := by rw [sumL_length, sumL_length]
  exact ⟨List.append_inj_left h hl, List.append_inj_right h hl⟩
theorem sm_set {l : List UInt8} {j : Nat} (h : j < l.length) (x : UInt8) : sm (l.set j x) + l[j].toNat = sm l + x.toNat := by
  induction l generalizing j with
  | nil => simp at h
  | cons y r ih =>
    cases j with
    | zero => simp [sm_cons]; omega
    | succ j =>
      have := ih (j := j) (by simpa using h)
      simp only [List.set_cons_succ, sm_cons, List.getElem_cons_succ]
      omega
theorem parse_damage {ln : List UInt8} (h : lineB ln = true) (hl : ln.length ≤ 30) {j : Nat} (hj : j < (entryL ln).length) {x : UInt8} (hx : (entryL ln)[j] ≠ x) {post : List UInt8}
    (hpost : post = [] ∨ ∃ l2 r, lineB l2 = true ∧ l2.length ≤ 30 ∧ post = entryL l2 ++ r) : (parse ((entryL ln).set j x ++ post)).2 = false := by
  cases hp : (parse ((entryL ln).set j x ++ post)).2 with
  | false => rfl
  | true =>
    exfalso
    obtain ⟨hl', rest, e⟩ := entry_of_parse hp
    generalize (parse ((entryL ln).set j x ++ post)).1 = ln' at *
    have h8 := sumL_length ln
    have hel : entryL ln = sumL ln ++ 32 :: (ln ++ [10]) := rfl
    have er : entryL ln' ++ rest = sumL ln' ++ 32 :: (ln' ++ 10 :: rest) := by simp [entryL]
    rw [er] at e
    have hne := lineB_ne h
    have hne' := lineB_ne hl'
    rw [entryL_length] at hj
    rcases Nat.lt_or_ge j 8 with hj8 | hj8
    · rw [hel, List.set_append_left _ _ (by omega), List.append_assoc] at e
      have hlen : ((sumL ln).set j x).length = (sumL ln').length := by rw [List.length_set, sumL_length, sumL_length]
      have e1 := List.append_inj_left e hlen
      have e2 := List.append_inj_right e hlen
      simp only [List.cons_append, List.append_assoc, List.cons.injEq, true_and, List.nil_append] at e2
      have := split_eq e2 hne hne'
      subst this
      apply hx
      have hg : (entryL ln)[j]? = some x := by
        rw [hel, List.getElem?_append_left (by omega), ← e1, List.getElem?_set_self (by omega)]
      rw [List.getElem?_eq_getElem (by rw [entryL_length]; omega)] at hg
      simpa using hg
    · obtain ⟨i, rfl⟩ : ∃ i, j = 8 + i := ⟨j - 8, by omega⟩
      have hx' : (32 :: (ln ++ [10]))[i]? ≠ some x := by
        intro hg
        apply hx
        have : (entryL ln)[8 + i]? = some x := by rw [hel, List.getElem?_append_right (by omega), h8]; simpa using hg
        rw [List.getElem?_eq_getElem (by rw [entryL_length]; omega)] at this
        simpa using this
      rw [hel, List.set_append_right _ _ (by omega), h8, List.append_assoc] at e
      simp only [show 8 + i - 8 = i by omega] at e
      obtain ⟨e1, e2⟩ := sum_len_eq e
      have hsm := sumL_sm e1
      cases i with
      | zero =>
        simp only [List.set_cons_zero, List.cons_append, List.cons.injEq] at e2
        apply hx'
        simp [e2.1]
      | succ i =>
        simp only [List.set_cons_succ, List.cons_append, List.cons.injEq, true_and] at e2
        rcases Nat.lt_or_ge i ln.length with hi | hi
        · rw [List.set_append_left _ _ hi, List.append_assoc] at e2
          have hxi : ln[i] ≠ x := by
            intro hg
            apply hx'
            simp [List.getElem?_append_left hi, List.getElem?_eq_getElem hi, hg]
          by_cases h10 : x = 10
          · have es : ln.set i x = ln.take i ++ 10 :: ln.drop (i + 1) := by rw [List.set_eq_take_append_cons_drop, if_pos hi, h10]
            rw [es, List.append_assoc] at e2
            have := split_eq e2 (fun c hc => hne c (List.mem_of_mem_take hc)) hne'
            subst this
            have hs : sm ln = sm (ln.take i) + sm (ln.drop i) := by rw [← sm_app, List.take_append_drop]
            have hd : sm (ln.drop i) = ln[i].toNat + sm (ln.drop (i + 1)) := by rw [List.drop_eq_getElem_cons hi, sm_cons]
            have h1 := sm_le ln
            have h2 : 32 ≤ ln[i].toNat := by
              simp only [lineB, Bool.and_eq_true, List.all_eq_true] at h
              have := h.1 ln[i] (List.getElem_mem _)
              simp [okb] at this; omega
            omega
          · have := split_eq (b := [] ++ post) e2 (fun c hc => by
              rcases List.mem_or_eq_of_mem_set hc with h3 | h3
              · exact hne c h3
              · rw [h3]; exact h10) hne'
            subst this
            have hs := sm_set hi x
            have h1 := sm_le ln
            have h3 := x.toNat_lt
            have h4 := ln[i].toNat_lt
            have h5 : ln[i].toNat ≠ x.toNat := fun hh => hxi (UInt8.toNat_inj.1 hh)
            omega
        · obtain rfl : i = ln.length := by omega
          rw [List.set_append_right _ _ (Nat.le_refl _), Nat.sub_self] at e2
          simp only [List.set_cons_zero] at e2
          have hx10 : x ≠ 10 := by
            intro hg
            apply hx'
            simp [hg]
          rcases hpost with rfl | ⟨l2, r, h2, h3, rfl⟩
          · have hm : (10 : UInt8) ∈ ln ++ [x] ++ [] := by rw [e2]; simp
            simp only [List.append_nil, List.mem_append, List.mem_singleton] at hm
            rcases hm with hm | hm
            · exact hne 10 hm rfl
            · exact hx10 hm.symm
          · rw [entry_split, ← List.append_assoc] at e2
            have := split_eq e2 (fun c hc => by
              rcases List.mem_append.1 hc with h4 | h4
              · rcases List.mem_append.1 h4 with h5 | h5
                · exact hne c h5
                · rw [List.mem_singleton.1 h5]; exact hx10
              · exact head_ne h2 c h4) hne'
            subst this
            have g1 := sm_le (sumL l2)
            have g2 := sm_le l2
            have g3 := sm_le ln
            have g4 := x.toNat_lt
            have g5 := sumL_length l2
            simp only [sm_app, sm_cons, show sm [] = 0 from rfl] at hsm
            have g6 : (32 : UInt8).toNat = 32 := rfl
            omega
/-- a journal of which one byte is another -/
theorem damaged {ls : List (List UInt8)} (h : Lines ls) (hs : ∀ l ∈ ls, l.length ≤ 30) {i : Nat} (hi : i < (bytesL ls).length) {x : UInt8} (hx : (bytesL ls)[i] ≠ x) :
    readL ((bytesL ls).set i x) = ls.take (whole ls i 0 0).1 ∧ bytesOf (ls.take (whole ls i 0 0).1) = (whole ls i 0 0).2 ∧ (whole ls i 0 0).1 ≤ ls.length := by
  obtain ⟨k, h1, h2, h3, h4⟩ := whole_spec ls i 0 0 (Nat.zero_le _)
  simp only [Nat.zero_add] at h2 h3 h4
  rw [h2]
  refine ⟨?_, rfl, h1⟩
  have hk : k < ls.length := by
    rcases Nat.lt_or_ge k ls.length with hk | hk
    · exact hk
    · rw [List.take_of_length_le hk, bytesOf_eq] at h3; omega
  have hlt := h4 hk
  have e := bytesL_split ls k hk
  have hbo := bytesOf_eq (ls.take k)
  have hel := entryL_length ls[k]
  have hx' : (entryL ls[k])[i - bytesOf (ls.take k)]'(by omega) ≠ x := by
    intro hg
    apply hx
    have : (bytesL ls)[i]? = some x := by
      rw [e, List.getElem?_append_right (by omega), List.getElem?_append_left (by omega), ← hbo, List.getElem?_eq_getElem (by omega), hg]
    rw [List.getElem?_eq_getElem hi] at this
    simpa using this
  rw [e, List.set_append_right _ _ (by omega), List.set_append_left _ _ (by omega), ← hbo]
  refine readL_app (lines_take h k) (parse_damage (h _ (List.getElem_mem _)) (hs _ (List.getElem_mem _)) (by omega) hx' ?_)
  cases hd : ls.drop (k + 1) with
  | nil => left; rfl
  | cons l2 r =>
    right
    have hm : l2 ∈ ls := List.mem_of_mem_drop (i := k + 1) (by rw [hd]; simp)
    exact ⟨l2, bytesL r, h l2 hm, hs l2 hm, rfl⟩

end Go.Proofs.Ytekgcedbejafeaa
