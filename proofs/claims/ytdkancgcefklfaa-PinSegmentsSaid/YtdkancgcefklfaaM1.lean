/-
  Pins and edges, as plain data: what the functions of chapter 18 compute.
-/
import Derived.Test.YtdkancgcefklfaaG7
import Derived.Test.YtdkancgcefklfaaQ0
namespace Go.Proofs.Ytdkancgcefklfaa


def ov (a b : Pin) : Bool := decide (a.From < b.To) && decide (b.From < a.To)
def bad (e : Int) (p : Pin) : Bool := decide (p.From < e) || decide (p.To ≤ p.From) || decide (p.Word < -1) || decide (200 ≤ p.Word)
def chkP : Int → List Pin → Option Int
  | e, [] => some e
  | e, p :: r => if bad e p then none else chkP p.To r
def validB (l : List Pin) (n : Int) : Bool := match chkP 0 l with
  | none => false
  | some e => decide (0 ≤ n) && decide (n ≤ 40) && decide (e ≤ n)
/-- the list is sorted, its pins do not overlap -/
def Sorted : Int → List Pin → Prop
  | _, [] => True
  | e, p :: r => e ≤ p.From ∧ p.From < p.To ∧ Sorted p.To r
theorem chk_sorted : ∀ (e : Int) (l : List Pin) (k : Int), chkP e l = some k → Sorted e l ∧ e ≤ k
  | e, [], k, h => by simp only [chkP, Option.some.injEq] at h; exact ⟨trivial, by omega⟩
  | e, p :: r, k, h => by
    simp only [chkP] at h
    split at h
    · cases h
    · rename_i hb
      obtain ⟨h1, h2⟩ := chk_sorted _ r k h
      simp only [bad, Bool.or_eq_true, decide_eq_true_eq, not_or] at hb
      exact ⟨⟨by omega, by omega, h1⟩, by omega⟩
def ins (p : Pin) : List Pin → List Pin
  | [] => [p]
  | q :: r => if p.From ≤ q.From then p :: q :: r else q :: ins p r
def putL (l : List Pin) (p : Pin) : List Pin := ins p (l.filter fun q => !ov p q)
/-- the reference's Put, from a place on -/
def rput (p : Pin) : Bool → List Pin → List Pin
  | done, [] => if done then [] else [p]
  | done, q :: r => (if !done && decide (p.From ≤ q.From) then [p] else []) ++ ((if ov q p then [] else [q]) ++ rput p (done || decide (p.From ≤ q.From)) r)
theorem ov_comm (a b : Pin) : ov a b = ov b a := by simp only [ov]; rw [Bool.and_comm]
theorem sorted_ge : ∀ {e e' : Int} {l : List Pin}, Sorted e l → e' ≤ e → Sorted e' l
  | _, _, [], _, _ => trivial
  | _, _, _ :: _, ⟨h1, h2, h3⟩, h => ⟨by omega, h2, h3⟩
theorem sorted_filter : ∀ {e : Int} {l : List Pin} (g : Pin → Bool), Sorted e l → Sorted e (l.filter g)
  | _, [], _, _ => trivial
  | e, p :: r, g, ⟨h1, h2, h3⟩ => by
    rw [List.filter_cons]
    split
    · exact ⟨h1, h2, sorted_filter g h3⟩
    · exact sorted_filter g (sorted_ge h3 (by omega))
theorem sorted_mem : ∀ {e : Int} {l : List Pin}, Sorted e l → ∀ q ∈ l, e ≤ q.From ∧ q.From < q.To
  | _, [], _, q, hq => by cases hq
  | _, p :: r, ⟨h1, h2, h3⟩, q, hq => by
    rcases List.mem_cons.1 hq with rfl | hq
    · exact ⟨h1, h2⟩
    · have := sorted_mem h3 q hq; omega
theorem ins_front {p : Pin} : ∀ {l : List Pin}, (∀ q ∈ l, p.From ≤ q.From) → ins p l = p :: l
  | [], _ => rfl
  | q :: r, h => by rw [ins, if_pos (h q (by simp))]
theorem rput_done (p : Pin) : ∀ l : List Pin, rput p true l = l.filter fun q => !ov p q
  | [] => rfl
  | q :: r => by
    have ih := rput_done p r
    rw [rput, List.filter_cons, ov_comm q p]
    simp only [Bool.not_true, Bool.false_and, Bool.false_eq_true, if_false, List.nil_append, Bool.true_or, ih]
    cases ov p q <;> simp
theorem rput_eq (p : Pin) : ∀ {e : Int} {l : List Pin}, Sorted e l → rput p false l = putL l p
  | _, [], _ => rfl
  | e, q :: r, ⟨h1, h2, h3⟩ => by
    have ih := rput_eq p h3
    unfold putL at ih ⊢
    rw [rput, List.filter_cons, ov_comm q p]
    by_cases hq : p.From ≤ q.From
    · have hr : ∀ x ∈ r.filter fun q => !ov p q, p.From ≤ x.From := fun x hx => by
        have := sorted_mem h3 x (List.mem_filter.1 hx).1; omega
      simp only [hq, decide_true, Bool.not_false, Bool.and_self, if_true, Bool.or_true, rput_done]
      cases ov p q
      · simp only [Bool.not_false, if_true, Bool.false_eq_true, if_false]
        rw [ins, if_pos hq]; rfl
      · simp only [Bool.not_true, Bool.false_eq_true, if_false, if_true]
        rw [ins_front hr]; rfl
    · simp only [hq, decide_false, Bool.not_false, Bool.and_false, Bool.false_eq_true, if_false, List.nil_append, Bool.or_false, ih]
      cases ov p q
      · simp only [Bool.not_false, if_true, Bool.false_eq_true, if_false]
        rw [ins, if_neg hq]; rfl
      · simp

/-- Valid, as the reference has it: the pin before is looked at -/
def okR (n : Int) (prev : Option Pin) (p : Pin) : Bool :=
  !(decide (p.From < 0) || decide (p.To ≤ p.From) || decide (n < p.To) || decide (p.Word < -1) || decide (200 ≤ p.Word) || (match prev with | none => false | some q => decide (p.From < q.To)))
def chkR (n : Int) : Option Pin → List Pin → Bool
  | _, [] => true
  | prev, p :: r => okR n prev p && chkR n (some p) r
def validR (l : List Pin) (n : Int) : Bool := decide (0 ≤ n) && decide (n ≤ 40) && chkR n none l
theorem chk_ge : ∀ (l : List Pin) (e k : Int), chkP e l = some k → e ≤ k := fun l e k h => (chk_sorted e l k h).2
theorem chkR_some (n : Int) : ∀ (l : List Pin) (q : Pin), 0 ≤ q.To → chkR n (some q) l = (match chkP q.To l with | none => false | some e => decide (l = []) || decide (e ≤ n))
  | [], q, _ => by simp [chkR, chkP]
  | p :: r, q, hq => by
    rw [chkR, chkP]
    by_cases hb : bad q.To p = true
    · rw [if_pos hb]
      simp only [bad, Bool.or_eq_true, decide_eq_true_eq] at hb
      have : okR n (some q) p = false := by
        simp only [okR, Bool.not_eq_false', Bool.or_eq_true, decide_eq_true_eq]
        omega
      rw [this]; rfl
    · rw [if_neg hb]
      simp only [bad, Bool.or_eq_true, decide_eq_true_eq, not_or] at hb
      rw [chkR_some n r p (by omega)]
      cases hc : chkP p.To r with
      | none => simp
      | some e =>
        have hge := chk_ge r _ _ hc
        simp only [reduceCtorEq, decide_false, Bool.false_or]
        by_cases hn : p.To ≤ n
        · have : okR n (some q) p = true := by
            simp only [okR, Bool.not_eq_true', Bool.or_eq_false_iff, decide_eq_false_iff_not]
            omega
          rw [this, Bool.true_and]
          cases r with
          | nil => simp only [chkP, Option.some.injEq] at hc; subst hc; simp [hn]
          | cons a b => simp
        · have : okR n (some q) p = false := by
            simp only [okR, Bool.not_eq_false', Bool.or_eq_true, decide_eq_true_eq]
            omega
          rw [this, Bool.false_and]
          symm; rw [decide_eq_false_iff_not]; omega
theorem valid_eq (l : List Pin) (n : Int) : validR l n = validB l n := by
  unfold validR validB
  cases l with
  | nil => simp [chkR, chkP]
           intros; omega
  | cons p r =>
    rw [chkR, chkP]
    by_cases hb : bad 0 p = true
    · rw [if_pos hb]
      simp only [bad, Bool.or_eq_true, decide_eq_true_eq] at hb
      have : okR n none p = false := by
        simp only [okR, Bool.not_eq_false', Bool.or_eq_true, decide_eq_true_eq]
        omega
      rw [this]; simp
    · rw [if_neg hb]
      simp only [bad, Bool.or_eq_true, decide_eq_true_eq, not_or] at hb
      rw [chkR_some n r p (by omega)]
      cases hc : chkP p.To r with
      | none => simp
      | some e =>
        have hge := chk_ge r _ _ hc
        dsimp only
        by_cases hn : p.To ≤ n
        · have : okR n none p = true := by
            simp only [okR, Bool.not_eq_true', Bool.or_eq_false_iff, decide_eq_false_iff_not]
            simp only [and_true]
            omega
          rw [this, Bool.true_and]
          cases r with
          | nil => simp only [chkP, Option.some.injEq] at hc; subst hc; simp [hn]
          | cons a b => simp
        · have : okR n none p = false := by
            simp only [okR, Bool.not_eq_false', Bool.or_eq_true, decide_eq_true_eq]
            omega
          rw [this, Bool.false_and, Bool.and_false]
          symm
          have : decide (e ≤ n) = false := by rw [decide_eq_false_iff_not]; omega
          rw [this, Bool.and_false]
theorem valid_sorted {l : List Pin} {n : Int} (h : validB l n = true) : Sorted 0 l := by
  unfold validB at h
  cases hc : chkP 0 l with
  | none => rw [hc] at h; cases h
  | some e => exact (chk_sorted 0 l e hc).1

end Go.Proofs.Ytdkancgcefklfaa
