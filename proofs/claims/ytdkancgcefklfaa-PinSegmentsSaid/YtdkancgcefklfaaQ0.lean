/-
  Plain laws of loops and lists, as the printed functions use them.
-/
import Derived.Test.YtdkancgcefklfaaPJ
namespace Go.Proofs.Ytdkancgcefklfaa

/-- a loop that goes from place to place, and may leave early: what it gives is told from each place on -/
theorem loop_sfx {σ ρ : Type} {f : σ → Option (σ ⊕ ρ)} (S : Nat → σ) (N : Nat) (R : Nat → ρ) (hN : N < 18446744073709551615) (h : ∀ k, k ≤ N → f (S k) = some (.inr (R k)) ∨ (k < N ∧ f (S k) = some (.inl (S (k + 1))) ∧ R k = R (k + 1))) {s : σ} {r : ρ} (hs : s = S 0) (hr : R 0 = r) :
    loop f s = some r := by
  subst hs hr
  have key : ∀ m k, k ≤ N → N - k < m → loopN m f (S k) = some (R k) := by
    intro m
    induction m with
    | zero => intro k _ h2; omega
    | succ m ih =>
      intro k hk hm
      rcases h k hk with h1 | ⟨h1, h2, h3⟩
      · simp only [loopN, h1]
      · simp only [loopN, h2]
        rw [h3]
        exact ih (k + 1) (by omega) (by omega)
  exact key fuel 0 (Nat.zero_le _) (by unfold fuel; omega)
/-- a loop that goes through all places -/
theorem loop_all {σ ρ : Type} {f : σ → Option (σ ⊕ ρ)} (S : Nat → σ) (N : Nat) (r : ρ) (hN : N < 18446744073709551615) (h : ∀ k, k < N → f (S k) = some (.inl (S (k + 1)))) (he : f (S N) = some (.inr r)) {s : σ} (hs : s = S 0) :
    loop f s = some r :=
  loop_sfx S N (fun _ => r) hN (fun k hk => by
    by_cases e : k = N
    · subst e; exact .inl he
    · exact .inr ⟨by omega, h k (by omega), rfl⟩) hs rfl
theorem at'_get {α : Type} [Inhabited α] {l : List α} {k : Nat} (h : k < l.length) : at' l (k : Int) = l[k] := by
  unfold at'; simp [List.getD_eq_getElem?_getD, h]
theorem drop_at {α : Type} [Inhabited α] {l : List α} {k : Nat} (h : k < l.length) : l.drop k = at' l (k : Int) :: l.drop (k + 1) := by
  rw [at'_get h]; exact List.drop_eq_getElem_cons h
theorem take_at {α : Type} [Inhabited α] {l : List α} {k : Nat} (h : k < l.length) : l.take (k + 1) = l.take k ++ [at' l (k : Int)] := by
  rw [at'_get h]; exact List.take_succ_eq_append_getElem h
theorem at'_mem {α : Type} [Inhabited α] {l : List α} {i : Int} (h0 : 0 ≤ i) (h : i < l.length) : at' l i ∈ l := by
  obtain ⟨k, rfl⟩ : ∃ k : Nat, i = k := ⟨i.toNat, by omega⟩
  rw [at'_get (by omega)]; exact List.getElem_mem _
theorem sub_all {α : Type} (l : List α) (n : Int) (h : n = l.length) : sub l 0 n = l := by
  subst h; unfold sub; simp
theorem sub_take {α : Type} (l : List α) (n : Int) : sub l 0 n = l.take n.toNat := by
  unfold sub; simp
/-- a loop with what holds of it at each place -/
theorem loop_upto {σ ρ : Type} {f : σ → Option (σ ⊕ ρ)} (J : Nat → σ → Prop) (Q : ρ → Prop) (N : Nat) {s : σ} (hN : N < 18446744073709551615) (h0 : J 0 s)
    (hs : ∀ k s, k < N → J k s → ∃ s', f s = some (.inl s') ∧ J (k + 1) s') (he : ∀ s, J N s → ∃ r, f s = some (.inr r) ∧ Q r) : ∃ r, loop f s = some r ∧ Q r := by
  have key : ∀ m k s, k ≤ N → J k s → N - k < m → ∃ r, loopN m f s = some r ∧ Q r := by
    intro m
    induction m with
    | zero => intro k s _ _ h2; omega
    | succ m ih =>
      intro k s hk hj hm
      by_cases e : k = N
      · subst e
        obtain ⟨r, h1, h2⟩ := he s hj
        exact ⟨r, by simp only [loopN, h1], h2⟩
      · obtain ⟨s', h1, h2⟩ := hs k s (by omega) hj
        obtain ⟨r, h3, h4⟩ := ih (k + 1) s' (by omega) h2 (by omega)
        exact ⟨r, by simp only [loopN, h1, h3], h4⟩
  exact key fuel 0 s (Nat.zero_le _) h0 (by unfold fuel; omega)
end Go.Proofs.Ytdkancgcefklfaa
