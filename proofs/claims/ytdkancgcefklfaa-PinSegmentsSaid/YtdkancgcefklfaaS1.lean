/-
  What the printed functions of chapter 18 compute: the simple ones.
-/
import Derived.Test.YtdkancgcefklfaaM3
namespace Go.Proofs.Ytdkancgcefklfaa

theorem ov1 (a b : Pin) : ref18_Overlap a b = some (ov a b) := by
  unfold ref18_Overlap ov; by_cases h : a.From < b.To <;> simp [h]
theorem ov2 (a b : Pin) : pin_overlap a b = some (ov a b) := by
  unfold pin_overlap ov; by_cases h : a.From < b.To <;> simp [h]
theorem ag1 (e : Edge) (p : Pin) : ref18_Against e p = some (against e p) := by
  unfold ref18_Against against
  by_cases h1 : e.From = p.From
  · by_cases h2 : e.To = p.To
    · by_cases h3 : p.Word = -1 <;> simp [h1, h2, h3]
    · by_cases h3 : p.From < p.To <;> simp [h1, h2, h3]
  · by_cases h3 : e.From < p.To <;> simp [h1, h3]
theorem ag2 (e : Edge) (p : Pin) : pin_against e p = some (against e p) := by
  unfold pin_against against
  obtain ⟨a, b, c⟩ := p
  by_cases h1 : e.From = a ∧ e.To = b
  · obtain ⟨rfl, rfl⟩ := h1
    by_cases h3 : c = -1 <;> simp [h3]
  · rw [if_neg (by intro e1; simp only [Pin.mk.injEq] at e1; exact h1 ⟨e1.1.symm, e1.2.1.symm⟩), if_neg (by simpa using h1), ov2]
    simp [ov, Bool.and_comm]
theorem has1 (l : List Pin) (p : Pin) (hl : l.length ≤ 100000) : ref18_Has l p = some (decide (p ∈ l)) := by
  unfold ref18_Has
  have h := loop_sfx (f := ref18_Has_L1 l p) (fun k => (k : Int)) l.length (fun k => if p ∈ l.drop k then .inl true else .inr ()) (by omega) (fun k hk => by
    by_cases e : k = l.length
    · subst e; left; simp [ref18_Has_L1]
    · have hk : k < l.length := by omega
      unfold ref18_Has_L1
      rw [if_pos (by omega), chk_pos (by omega), drop_at hk]
      by_cases h2 : at' l k = p
      · left; simp [h2]
      · right
        refine ⟨hk, ?_, ?_⟩
        · rw [if_neg h2, chk_pos (by omega)]; rfl
        · have : ¬ p = at' l k := fun e => h2 e.symm
          simp [this]) (s := 0) rfl rfl
  rw [h, List.drop_zero]
  by_cases h2 : p ∈ l <;> simp [h2]
theorem list_ext_at {α : Type} [Inhabited α] {a b : List α} (k : Nat) (h : a.length = b.length) (hk : k < a.length) : a.drop k = b.drop k ↔ at' a k = at' b k ∧ a.drop (k + 1) = b.drop (k + 1) := by
  rw [drop_at hk, drop_at (by omega : k < b.length)]; simp
theorem same1 (a b : List Pin) (hl : a.length ≤ 100000) : ref18_Same a b = some (decide (a = b)) := by
  unfold ref18_Same
  by_cases hab : a.length = b.length
  · rw [if_pos (by omega)]
    have h := loop_sfx (f := ref18_Same_L1 a b) (fun k => (k : Int)) a.length (fun k => if a.drop k = b.drop k then .inr () else .inl false) (by omega) (fun k hk => by
      by_cases e : k = a.length
      · subst e; left; simp [ref18_Same_L1, hab]
      · have hk : k < a.length := by omega
        unfold ref18_Same_L1
        rw [if_pos (by omega), chk_pos (by omega), chk_pos (by omega)]
        by_cases h2 : at' a k = at' b k
        · right
          refine ⟨hk, ?_, ?_⟩
          · rw [if_pos h2, chk_pos (by omega)]; rfl
          · simp [list_ext_at k hab hk, h2]
        · left; simp [list_ext_at k hab hk, h2]) (s := 0) rfl rfl
    rw [h, List.drop_zero, List.drop_zero]
    by_cases h2 : a = b <;> simp [h2]
  · rw [if_neg (by omega)]
    have : ¬ a = b := fun e => hab (by rw [e])
    simp [this]
theorem sameE1 (a b : Lattice) (hl : a.Edges.length ≤ 100000) : ref18_SameEdges a b = some (decide (a = b)) := by
  obtain ⟨n, a⟩ := a
  obtain ⟨m, b⟩ := b
  unfold ref18_SameEdges
  by_cases hn : n = m
  · by_cases hab : a.length = b.length
    · have h := loop_sfx (f := ref18_SameEdges_L1 ⟨n, a⟩ ⟨m, b⟩) (fun k => (k : Int)) a.length (fun k => if a.drop k = b.drop k then .inr () else .inl false) (by simp at hl; omega) (fun k hk => by
        simp only at hl
        by_cases e : k = a.length
        · subst e; left; simp [ref18_SameEdges_L1, hab]
        · have hk : k < a.length := by omega
          unfold ref18_SameEdges_L1
          simp only
          rw [if_pos (by omega), chk_pos (by omega), chk_pos (by omega)]
          by_cases h2 : at' a k = at' b k
          · right
            refine ⟨hk, ?_, ?_⟩
            · rw [if_pos h2, chk_pos (by omega)]; rfl
            · simp [list_ext_at k hab hk, h2]
          · left; simp [list_ext_at k hab hk, h2]) (s := 0) rfl rfl
      rw [h, List.drop_zero, List.drop_zero]
      by_cases h2 : a = b <;> simp [h2, hn, hab]
    · have : ¬ a = b := fun e => hab (by rw [e])
      have h3 : ¬ (a.length : Int) = (b.length : Int) := by omega
      simp [this, hn, h3]
  · simp [hn]
theorem cont1 (l : List Pin) (f : Pin → Option Bool) (g : Pin → Bool) (hf : ∀ p ∈ l, f p = some (g p)) (hl : l.length ≤ 100000) : slices_ContainsFunc l f = some (l.any g) ∧ slices_IndexFunc l f = some (if l.any g then ((l.takeWhile fun p => !g p).length : Int) else -1) := by
  have h := loop_sfx (f := slices_IndexFunc_L1 l f) (fun k => (k : Int)) l.length (fun k => if (l.drop k).any g then .inl ((k : Int) + (((l.drop k).takeWhile fun p => !g p).length : Int)) else .inr ()) (by omega) (fun k hk => by
    by_cases e : k = l.length
    · subst e; left; simp [slices_IndexFunc_L1]
    · have hk : k < l.length := by omega
      unfold slices_IndexFunc_L1
      rw [if_pos (by omega), chk_pos (by omega), drop_at hk, hf _ (at'_mem (by omega) (by omega))]
      cases h2 : g (at' l k)
      · right
        refine ⟨hk, ?_, ?_⟩
        · simp -implicitDefEqProofs only [Option.bind_some, Bool.false_eq_true, if_false]
          rw [chk_pos (by omega)]; simp
        · simp [h2]
          split
          · congr 1; omega
          · rfl
      · left; simp [h2]) (s := 0) rfl rfl
  have h2 : slices_IndexFunc l f = some (if l.any g then ((l.takeWhile fun p => !g p).length : Int) else -1) := by
    unfold slices_IndexFunc
    rw [h, List.drop_zero]
    cases h2 : l.any g <;> simp
  refine ⟨?_, h2⟩
  unfold slices_ContainsFunc
  rw [h2]
  cases h2 : l.any g <;> simp
theorem restr1 (x : Lattice) (l : List Pin) (hl : l.length ≤ 100000) (hx : x.Edges.length ≤ 100000) : ref18_Restrict x l = some ⟨x.N, restr x.Edges l⟩ := by
  unfold ref18_Restrict
  have h1 : ∀ i : Nat, i < x.Edges.length → loop (ref18_Restrict_L1 x l i) (true, 0) = some (l.all fun p => !against (at' x.Edges i) p) := fun i hi => by
    have h := loop_all (f := ref18_Restrict_L1 x l i) (fun k => ((l.take k).all fun p => !against (at' x.Edges i) p, (k : Int))) l.length (l.all fun p => !against (at' x.Edges i) p) (by omega) (fun k hk => by
      unfold ref18_Restrict_L1
      simp only
      rw [if_pos (by omega), take_at hk, List.all_append]
      cases h2 : (l.take k).all fun p => !against (at' x.Edges i) p
      · simp -implicitDefEqProofs only [Bool.false_eq_true, if_false, Option.bind_some]
        rw [chk_pos (by omega)]; simp
      · simp -implicitDefEqProofs only [if_true]
        rw [chk_pos (by omega), chk_pos (by omega), ag1]
        simp -implicitDefEqProofs only [Option.bind_some]
        rw [chk_pos (by omega)]; simp) (by simp [ref18_Restrict_L1]) (s := (true, 0)) rfl
    exact h
  have h := loop_all (f := ref18_Restrict_L2 x l) (fun k => ((k : Int), restr (x.Edges.take k) l)) x.Edges.length (restr x.Edges l) (by omega) (fun k hk => by
    unfold ref18_Restrict_L2
    simp only
    have hle : (restr (x.Edges.take k) l).length ≤ k := by
      unfold restr
      exact Nat.le_trans (List.length_filter_le _ _) (by simp; omega)
    rw [if_pos (by omega), h1 k hk, take_at hk]
    simp -implicitDefEqProofs only [Option.bind_some]
    have hr : restr (x.Edges.take k ++ [at' x.Edges k]) l = restr (x.Edges.take k) l ++ if (l.all fun p => !against (at' x.Edges k) p) then [at' x.Edges k] else [] := by
      unfold restr
      rw [List.filter_append, List.filter_cons, List.filter_nil]
    rw [hr]
    cases h2 : l.all fun p => !against (at' x.Edges k) p
    · simp -implicitDefEqProofs only [Bool.false_eq_true, if_false, Option.bind_some, List.append_nil]
      rw [chk_pos (by omega)]; simp
    · simp -implicitDefEqProofs only [if_true]
      rw [chk_pos (by omega), chk_pos (by simp; omega)]
      simp -implicitDefEqProofs only [Option.bind_some]
      rw [chk_pos (by omega)]; simp) (by simp [ref18_Restrict_L2]) (s := (0, [])) rfl
  rw [h]; rfl
theorem restr2 (x : Lattice) (l : List Pin) (hl : l.length ≤ 100000) (hx : x.Edges.length ≤ 100000) : pin_Restrict x l = some ⟨x.N, restr x.Edges l⟩ := by
  unfold pin_Restrict
  have h := loop_all (f := pin_Restrict_L1 x l) (fun k => ((k : Int), restr (x.Edges.take k) l)) x.Edges.length (restr x.Edges l) (by omega) (fun k hk => by
    unfold pin_Restrict_L1
    simp only
    have hle : (restr (x.Edges.take k) l).length ≤ k := by
      unfold restr
      exact Nat.le_trans (List.length_filter_le _ _) (by simp; omega)
    rw [if_pos (by omega), chk_pos (by omega), (cont1 l _ (fun p => against (at' x.Edges k) p) (fun p _ => by simp [pin_Restrict_1, ag2]) hl).1, take_at hk]
    simp -implicitDefEqProofs only [Option.bind_some]
    have hr : restr (x.Edges.take k ++ [at' x.Edges k]) l = restr (x.Edges.take k) l ++ if (l.any fun p => against (at' x.Edges k) p) then [] else [at' x.Edges k] := by
      unfold restr
      rw [List.filter_append, List.filter_cons, List.filter_nil]
      have : (l.all fun p => !against (at' x.Edges k) p) = !(l.any fun p => against (at' x.Edges k) p) := by simp [List.all_eq_not_any_not]
      rw [this]
      cases l.any fun p => against (at' x.Edges k) p <;> simp
    rw [hr]
    cases h2 : l.any fun p => against (at' x.Edges k) p
    · simp -implicitDefEqProofs only [Bool.false_eq_true, if_false]
      rw [chk_pos (by simp; omega)]
      simp -implicitDefEqProofs only [Option.bind_some]
      rw [chk_pos (by omega)]; simp
    · simp -implicitDefEqProofs only [if_true, Option.bind_some, List.append_nil]
      rw [chk_pos (by omega)]; simp) (by simp [pin_Restrict_L1]) (s := (0, [])) rfl
  rw [h]; rfl
end Go.Proofs.Ytdkancgcefklfaa
