/-
  Ways through a lattice, and what pins leave of them.
-/
import Derived.Test.YtdkancgcefklfaaM2
namespace Go.Proofs.Ytdkancgcefklfaa

/-- the ways from a place on, as the code makes them: at most 300 -/
def step (g : Int → List (List Edge)) (from_ : Int) (out : List (List Edge)) (e : Edge) : List (List Edge) :=
  if e.From = from_ then out ++ ((g e.To).map (e :: ·)).take (300 - out.length) else out
def wayT (es : List Edge) (n : Int) : Nat → Int → List (List Edge)
  | 0, _ => []
  | k + 1, from_ => if from_ = n then [[]] else es.foldl (step (wayT es n k) from_) []
/-- all of them -/
def full (es : List Edge) (n : Int) : Nat → Int → List (List Edge)
  | 0, _ => []
  | k + 1, from_ => if from_ = n then [[]] else es.flatMap fun e => if e.From = from_ then (full es n k e.To).map (e :: ·) else []
theorem take_take_map {g : List (List Edge)} {e : Edge} {m : Nat} (hm : m ≤ 300) : (((g.take 300).map (e :: ·)).take m) = (g.map (e :: ·)).take m := by
  rw [← List.map_take, ← List.map_take, List.take_take, Nat.min_eq_left hm]
theorem fold_take (es : List Edge) (g : Int → List (List Edge)) (from_ : Int) : ∀ out : List (List Edge), (es.foldl (step (fun t => (g t).take 300) from_) (out.take 300)) = (out ++ es.flatMap fun e => if e.From = from_ then (g e.To).map (e :: ·) else []).take 300 := by
  induction es with
  | nil => intro out; simp
  | cons e r ih =>
    intro out
    rw [List.foldl_cons, List.flatMap_cons]
    by_cases h : e.From = from_
    · have : step (fun t => (g t).take 300) from_ (out.take 300) e = (out ++ (g e.To).map (e :: ·)).take 300 := by
        unfold step
        rw [if_pos h, take_take_map (by omega), List.take_append, List.length_take]
        congr 2
        omega
      rw [this, ih, if_pos h, List.append_assoc]
    · have : step (fun t => (g t).take 300) from_ (out.take 300) e = out.take 300 := by
        unfold step; rw [if_neg h]
      rw [this, ih, if_neg h, List.nil_append]
theorem wayT_eq (es : List Edge) (n : Int) : ∀ (k : Nat) (from_ : Int), wayT es n k from_ = (full es n k from_).take 300
  | 0, _ => rfl
  | k + 1, from_ => by
    rw [wayT, full]
    split
    · rfl
    · have : wayT es n k = fun t => (full es n k t).take 300 := funext fun t => wayT_eq es n k t
      rw [this]
      have := fold_take es (full es n k) from_ []
      simpa using this
theorem flat_filter (g : Edge → Bool) (F G : Int → List (List Edge)) (h : ∀ t, G t = (F t).filter fun w => w.all g) (from_ : Int) : ∀ xs : List Edge,
    ((xs.filter g).flatMap fun e => if e.From = from_ then (G e.To).map (e :: ·) else []) = (xs.flatMap fun e => if e.From = from_ then (F e.To).map (e :: ·) else []).filter fun w => w.all g
  | [] => rfl
  | e :: r => by
    have ih := flat_filter g F G h from_ r
    rw [List.flatMap_cons, List.filter_append, ← ih, List.filter_cons]
    cases hg : g e with
    | true =>
      simp only [if_true, List.flatMap_cons]
      congr 1
      by_cases hf : e.From = from_
      · rw [if_pos hf, if_pos hf, h, List.filter_map]
        congr 1
        congr 1; funext w; simp [hg]
      · rw [if_neg hf, if_neg hf]; rfl
    | false =>
      have : (if e.From = from_ then (F e.To).map (e :: ·) else []).filter (fun w => w.all g) = [] := by
        by_cases hf : e.From = from_
        · rw [if_pos hf, List.filter_map, List.map_eq_nil_iff, List.filter_eq_nil_iff]
          intro w _; simp [hg]
        · rw [if_neg hf]; rfl
      rw [this]; rfl
theorem full_filter (es : List Edge) (n : Int) (g : Edge → Bool) : ∀ (k : Nat) (from_ : Int), full (es.filter g) n k from_ = (full es n k from_).filter fun w => w.all g
  | 0, _ => rfl
  | k + 1, from_ => by
    rw [full, full]
    split
    · rfl
    · exact flat_filter g _ _ (full_filter es n g k) from_ es
/-- edges one after the other, from a place to the end -/
def Path (n : Int) : Int → List Edge → Prop
  | a, [] => a = n
  | a, e :: r => e.From = a ∧ a < e.To ∧ e.To ≤ n ∧ Path n e.To r
theorem full_path {es : List Edge} {n : Int} (he : ∀ e ∈ es, e.From < e.To ∧ e.To ≤ n) : ∀ (k : Nat) (from_ : Int), ∀ w ∈ full es n k from_, Path n from_ w ∧ ∀ e ∈ w, e ∈ es
  | 0, _, w, h => by cases h
  | k + 1, from_, w, h => by
    rw [full] at h
    split at h
    · rw [List.mem_singleton] at h
      subst h
      exact ⟨by assumption, by simp⟩
    · obtain ⟨e, h1, h2⟩ := List.mem_flatMap.1 h
      split at h2
      · rename_i hf
        obtain ⟨w', h3, rfl⟩ := List.mem_map.1 h2
        obtain ⟨h4, h5⟩ := full_path he k e.To w' h3
        have := he e h1
        refine ⟨⟨hf, by omega, by omega, h4⟩, fun x hx => ?_⟩
        rcases List.mem_cons.1 hx with rfl | hx
        · exact h1
        · exact h5 x hx
      · cases h2
theorem path_ge {n : Int} : ∀ {a : Int} {w : List Edge}, Path n a w → ∀ e ∈ w, a ≤ e.From ∧ e.From < e.To ∧ e.To ≤ n
  | _, [], _, e, h => by cases h
  | a, x :: r, ⟨h1, h2, h3, h4⟩, e, h => by
    rcases List.mem_cons.1 h with rfl | h
    · omega
    · have := path_ge h4 e h; omega
/-- a way covers every slot -/
theorem path_covers {n : Int} : ∀ {a : Int} {w : List Edge}, Path n a w → ∀ s, a ≤ s → s < n → ∃ e ∈ w, e.From ≤ s ∧ s < e.To
  | a, [], h, s, h1, h2 => by unfold Path at h; omega
  | a, x :: r, ⟨g1, g2, g3, g4⟩, s, h1, h2 => by
    by_cases h : s < x.To
    · exact ⟨x, by simp, by omega, h⟩
    · obtain ⟨e, h3, h4⟩ := path_covers g4 s (by omega) h2
      exact ⟨e, by simp [h3], h4⟩
/-- two segments of one way are one, or lie apart -/
theorem path_apart {n : Int} : ∀ {a : Int} {w : List Edge}, Path n a w → ∀ e ∈ w, ∀ x ∈ w, e.From < x.To → x.From < e.To → e = x
  | _, [], _, e, h, _, _, _, _ => by cases h
  | a, y :: r, ⟨g1, g2, g3, g4⟩, e, he, x, hx, h1, h2 => by
    rcases List.mem_cons.1 he with he' | he'
    · rcases List.mem_cons.1 hx with hx' | hx'
      · rw [he', hx']
      · have := path_ge g4 x hx'
        rw [he'] at h2; omega
    · rcases List.mem_cons.1 hx with hx' | hx'
      · have := path_ge g4 e he'
        rw [hx'] at h1; omega
      · exact path_apart g4 e he' x hx' h1 h2
/-- has this pin as a segment -/
def segB (p : Pin) (e : Edge) : Bool := (decide (e.From = p.From) && decide (e.To = p.To)) && (decide (p.Word = -1) || decide (p.Word = e.Word))
theorem way_pin {n : Int} {w : List Edge} (h : Path n 0 w) {p : Pin} (h0 : 0 ≤ p.From) (h1 : p.From < p.To) (h2 : p.To ≤ n) : (w.all fun e => !against e p) = w.any (segB p) := by
  rw [Bool.eq_iff_iff, List.all_eq_true, List.any_eq_true]
  constructor
  · intro ha
    obtain ⟨e, h3, h4, h5⟩ := path_covers h p.From h0 (by omega)
    refine ⟨e, h3, ?_⟩
    have := ha e h3
    unfold against at this
    split at this
    · rename_i hc
      simp only [segB, hc.1, hc.2, decide_true, Bool.true_and, Bool.or_eq_true, decide_eq_true_eq]
      simp only [Bool.not_eq_true', Bool.and_eq_false_iff, decide_eq_false_iff_not, Decidable.not_not] at this
      exact this
    · simp only [Bool.not_eq_true', Bool.and_eq_false_iff, decide_eq_false_iff_not] at this
      omega
  · rintro ⟨e, h3, h4⟩ x hx
    simp only [segB, Bool.and_eq_true, Bool.or_eq_true, decide_eq_true_eq] at h4
    unfold against
    split
    · rename_i hc
      have := path_ge h x hx
      have : x = e := path_apart h x hx e h3 (by omega) (by omega)
      subst this
      simp only [Bool.not_eq_true', Bool.and_eq_false_iff, decide_eq_false_iff_not, Decidable.not_not]
      exact h4.2
    · rename_i hc
      simp only [Bool.not_eq_true', Bool.and_eq_false_iff, decide_eq_false_iff_not]
      by_cases hov : x.From < p.To ∧ p.From < x.To
      · exfalso
        have : x = e := path_apart h x hx e h3 (by omega) (by omega)
        subst this
        exact hc h4.1
      · omega
/-- the ways that pins leave -/
theorem ways_left {es : List Edge} {n : Int} (he : ∀ e ∈ es, e.From < e.To ∧ e.To ≤ n) (l : List Pin) (hl : ∀ p ∈ l, 0 ≤ p.From ∧ p.From < p.To ∧ p.To ≤ n) (k : Nat) : full (restr es l) n k 0 = (full es n k 0).filter fun w => l.all fun p => w.any (segB p) := by
  unfold restr
  rw [full_filter]
  apply List.filter_congr
  intro w hw
  obtain ⟨h1, _⟩ := full_path he k 0 w hw
  rw [Bool.eq_iff_iff, List.all_eq_true, List.all_eq_true]
  constructor
  · intro h p hp
    obtain ⟨g1, g2, g3⟩ := hl p hp
    rw [← way_pin h1 g1 g2 g3, List.all_eq_true]
    intro e hew
    have := h e hew
    rw [List.all_eq_true] at this
    exact this p hp
  · intro h e hew
    rw [List.all_eq_true]
    intro p hp
    obtain ⟨g1, g2, g3⟩ := hl p hp
    have := h p hp
    rw [← way_pin h1 g1 g2 g3, List.all_eq_true] at this
    exact this e hew
/-- the law's sentence: where not as many as 300 ways were made, those that the pins leave are those that have each pin -/
theorem ways_law {es : List Edge} {n : Int} (he : ∀ e ∈ es, e.From < e.To ∧ e.To ≤ n) (l : List Pin) (hl : ∀ p ∈ l, 0 ≤ p.From ∧ p.From < p.To ∧ p.To ≤ n) (k : Nat) (h : (wayT es n k 0).length ≠ 300) :
    wayT (restr es l) n k 0 = (wayT es n k 0).filter fun w => l.all fun p => w.any (segB p) := by
  have hf : (full es n k 0).length < 300 := by
    rw [wayT_eq, List.length_take] at h
    omega
  have hw : wayT es n k 0 = full es n k 0 := by rw [wayT_eq, List.take_of_length_le (by omega)]
  rw [hw, wayT_eq, ways_left he l hl k, List.take_of_length_le]
  exact Nat.le_trans (List.length_filter_le _ _) (by omega)
end Go.Proofs.Ytdkancgcefklfaa
