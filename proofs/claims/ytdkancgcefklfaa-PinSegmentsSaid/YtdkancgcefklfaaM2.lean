/-
  Pins: what Put, Restrict, Insert and Delete do, as the laws say it.
-/
import Derived.Test.YtdkancgcefklfaaM1
namespace Go.Proofs.Ytdkancgcefklfaa

/-- every pin of the list lies in order, is well made and ends by n -/
def Good (n : Int) : Int → List Pin → Prop
  | _, [] => True
  | e, p :: r => e ≤ p.From ∧ p.From < p.To ∧ p.To ≤ n ∧ -1 ≤ p.Word ∧ p.Word < 200 ∧ Good n p.To r
theorem chk_good : ∀ {l : List Pin} {e k n : Int}, chkP e l = some k → k ≤ n → Good n e l
  | [], _, _, _, _, _ => trivial
  | p :: r, e, k, n, h, hk => by
    rw [chkP] at h
    split at h
    · cases h
    · rename_i hb
      simp only [bad, Bool.or_eq_true, decide_eq_true_eq, not_or] at hb
      have := chk_ge r _ _ h
      exact ⟨by omega, by omega, by omega, by omega, by omega, chk_good h hk⟩
theorem good_chk : ∀ {l : List Pin} {e n : Int}, Good n e l → e ≤ n → ∃ k, chkP e l = some k ∧ k ≤ n
  | [], e, _, _, h => ⟨e, rfl, h⟩
  | p :: r, e, n, ⟨h1, h2, h3, h4, h5, h6⟩, _ => by
    obtain ⟨k, h7, h8⟩ := good_chk h6 h3
    refine ⟨k, ?_, h8⟩
    rw [chkP, if_neg (by simp only [bad, Bool.or_eq_true, decide_eq_true_eq, not_or]; omega), h7]
theorem valid_iff {l : List Pin} {n : Int} : validB l n = true ↔ 0 ≤ n ∧ n ≤ 40 ∧ Good n 0 l := by
  constructor
  · intro h
    unfold validB at h
    cases hc : chkP 0 l with
    | none => rw [hc] at h; cases h
    | some e =>
      rw [hc] at h
      simp only [Bool.and_eq_true, decide_eq_true_eq] at h
      exact ⟨h.1.1, h.1.2, chk_good hc h.2⟩
  · rintro ⟨h1, h2, h3⟩
    obtain ⟨k, h4, h5⟩ := good_chk h3 h1
    unfold validB
    rw [h4]
    simp [h1, h2, h5]
theorem good_ge : ∀ {l : List Pin} {e e' n : Int}, Good n e l → e' ≤ e → Good n e' l
  | [], _, _, _, _, _ => trivial
  | _ :: _, _, _, _, ⟨h1, h⟩, h' => ⟨by omega, h⟩
theorem good_up : ∀ {l : List Pin} {e n n' : Int}, Good n e l → n ≤ n' → Good n' e l
  | [], _, _, _, _, _ => trivial
  | _ :: _, _, _, _, ⟨h1, h2, h3, h4, h5, h6⟩, h' => ⟨h1, h2, by omega, h4, h5, good_up h6 h'⟩
theorem good_filter : ∀ {l : List Pin} {e n : Int} (g : Pin → Bool), Good n e l → Good n e (l.filter g)
  | [], _, _, _, _ => trivial
  | p :: r, e, n, g, ⟨h1, h2, h3, h4, h5, h6⟩ => by
    rw [List.filter_cons]
    split
    · exact ⟨h1, h2, h3, h4, h5, good_filter g h6⟩
    · exact good_filter g (good_ge h6 (by omega))
theorem good_mem : ∀ {l : List Pin} {e n : Int}, Good n e l → ∀ q ∈ l, e ≤ q.From ∧ q.From < q.To ∧ q.To ≤ n ∧ -1 ≤ q.Word ∧ q.Word < 200
  | [], _, _, _, q, hq => by cases hq
  | p :: r, e, n, ⟨h1, h2, h3, h4, h5, h6⟩, q, hq => by
    rcases List.mem_cons.1 hq with rfl | hq
    · exact ⟨h1, h2, h3, h4, h5⟩
    · have := good_mem h6 q hq; omega
theorem good_ins {p : Pin} {n : Int} (hp : p.From < p.To ∧ p.To ≤ n ∧ -1 ≤ p.Word ∧ p.Word < 200) : ∀ {l : List Pin} {e : Int}, Good n e l → e ≤ p.From → (∀ q ∈ l, ov p q = false) → Good n e (ins p l)
  | [], e, _, he, _ => ⟨he, hp.1, hp.2.1, hp.2.2.1, hp.2.2.2, trivial⟩
  | q :: r, e, ⟨h1, h2, h3, h4, h5, h6⟩, he, ho => by
    have hq := ho q (by simp)
    simp only [ov, Bool.and_eq_false_iff, decide_eq_false_iff_not] at hq
    rw [ins]
    split
    · exact ⟨he, hp.1, hp.2.1, hp.2.2.1, hp.2.2.2, by omega, h2, h3, h4, h5, h6⟩
    · refine ⟨h1, h2, h3, h4, h5, good_ins hp h6 (by omega) (fun x hx => ho x (by simp [hx]))⟩
theorem put_not_ov (l : List Pin) (p : Pin) : ∀ q ∈ l.filter (fun q => !ov p q), ov p q = false := by
  intro q hq
  have := (List.mem_filter.1 hq).2
  simpa using this
theorem put_valid {l : List Pin} {p : Pin} {n : Int} (h : validB l n = true) (hp : validB [p] n = true) : validB (putL l p) n = true := by
  rw [valid_iff] at h hp ⊢
  obtain ⟨h1, h2, h3⟩ := h
  obtain ⟨_, _, h4, h5, h6, h7, h8, _⟩ := hp
  exact ⟨h1, h2, good_ins ⟨h5, h6, h7, h8⟩ (good_filter _ h3) h4 (put_not_ov l p)⟩
theorem mem_ins {p q : Pin} : ∀ {l : List Pin}, q ∈ ins p l ↔ q = p ∨ q ∈ l
  | [] => by simp [ins]
  | x :: r => by
    rw [ins]
    split
    · simp
    · rw [List.mem_cons, mem_ins, List.mem_cons]
      constructor
      · rintro (h | h | h)
        · exact .inr (.inl h)
        · exact .inl h
        · exact .inr (.inr h)
      · rintro (h | h | h)
        · exact .inr (.inl h)
        · exact .inl h
        · exact .inr (.inr h)
theorem mem_put {l : List Pin} {p q : Pin} : q ∈ putL l p ↔ q = p ∨ (q ∈ l ∧ ov p q = false) := by
  unfold putL
  rw [mem_ins, List.mem_filter]
  simp
theorem length_ins (p : Pin) : ∀ l : List Pin, (ins p l).length = l.length + 1
  | [] => rfl
  | x :: r => by
    rw [ins]
    split
    · rfl
    · rw [List.length_cons, length_ins p r, List.length_cons]
theorem filter_ins {p : Pin} (hp : p.From < p.To) : ∀ {l : List Pin}, (∀ q ∈ l, ov p q = false) → (ins p l).filter (fun q => !ov p q) = l
  | [], _ => by
    have : ov p p = true := by simp [ov, hp]
    simp [ins, this]
  | x :: r, h => by
    have hpp : ov p p = true := by simp [ov, hp]
    have hx := h x (by simp)
    have hr : r.filter (fun q => !ov p q) = r := by
      rw [List.filter_eq_self]
      intro q hq
      simp [h q (by simp [hq])]
    rw [ins]
    split
    · rw [List.filter_cons, hpp, List.filter_cons, hx, hr]; rfl
    · rw [List.filter_cons, hx, filter_ins hp (fun q hq => h q (by simp [hq]))]; rfl
/-- putting a pin again changes nothing -/
theorem put_put (l : List Pin) {p : Pin} (hp : p.From < p.To) : putL (putL l p) p = putL l p := by
  unfold putL
  rw [filter_ins hp (put_not_ov l p)]
theorem put_length (l : List Pin) (p : Pin) : (putL l p).length = 1 + (l.filter fun q => !ov p q).length := by
  unfold putL
  rw [length_ins]; omega

def against (e : Edge) (p : Pin) : Bool :=
  if e.From = p.From ∧ e.To = p.To then decide (p.Word ≠ -1) && decide (p.Word ≠ e.Word) else decide (e.From < p.To) && decide (p.From < e.To)
def restr (es : List Edge) (l : List Pin) : List Edge := es.filter fun e => l.all fun p => !against e p
theorem restr_restr (es : List Edge) (l : List Pin) : restr (restr es l) l = restr es l := by
  unfold restr
  rw [List.filter_filter]
  congr 1; funext e; simp
theorem restr_nil (es : List Edge) : restr es [] = es := by simp [restr]
theorem restr_app (es : List Edge) (l m : List Pin) : restr (restr es l) m = restr es (l ++ m) := by
  unfold restr
  rw [List.filter_filter]
  congr 1; funext e; simp [Bool.and_comm]
theorem restr_length (es : List Edge) (l m : List Pin) (h : ∀ p ∈ m, p ∈ l) : (restr es l).length ≤ (restr es m).length := by
  unfold restr
  refine List.Sublist.length_le ?_
  have : (es.filter fun e => l.all fun p => !against e p) = (es.filter fun e => m.all fun p => !against e p).filter fun e => l.all fun p => !against e p := by
    rw [List.filter_filter]
    congr 1; funext e
    cases hl : l.all fun p => !against e p with
    | false => simp
    | true =>
      symm
      rw [Bool.and_eq_true]
      refine ⟨rfl, ?_⟩
      rw [List.all_eq_true] at hl ⊢
      exact fun p hp => hl p (h p hp)
  rw [this]
  exact List.filter_sublist
theorem restr_same (es : List Edge) (l m : List Pin) (h : ∀ p, p ∈ m ↔ p ∈ l) : restr es l = restr es m := by
  unfold restr
  congr 1; funext e
  rw [Bool.eq_iff_iff, List.all_eq_true, List.all_eq_true]
  exact ⟨fun g p hp => g p ((h p).1 hp), fun g p hp => g p ((h p).2 hp)⟩

def up (by_ : Int) (p : Pin) : Pin := ⟨p.From + by_, p.To + by_, p.Word⟩
def moved (l : List Pin) (fr by_ : Int) : List Pin := l.map fun p => if fr ≤ p.From then up by_ p else p
def insertL (l : List Pin) (at_ : Int) : List Pin := moved (l.filter fun p => !(decide (p.From < at_) && decide (at_ < p.To))) at_ 1
def deleteL (l : List Pin) (at_ : Int) : List Pin := moved (l.filter fun p => !(decide (p.From ≤ at_) && decide (at_ < p.To))) (at_ + 1) (-1)
/-- the reference's Insert and Delete -/
def rins (at_ : Int) : List Pin → List Pin
  | [] => []
  | p :: r => if at_ ≤ p.From then up 1 p :: rins at_ r else if at_ < p.To then rins at_ r else p :: rins at_ r
def rdel (at_ : Int) : List Pin → List Pin
  | [] => []
  | p :: r => if at_ < p.From then up (-1) p :: rdel at_ r else if at_ < p.To then rdel at_ r else p :: rdel at_ r
theorem rins_eq (at_ : Int) : ∀ l : List Pin, rins at_ l = insertL l at_
  | [] => rfl
  | p :: r => by
    have ih := rins_eq at_ r
    unfold insertL moved at ih ⊢
    rw [rins, ih, List.filter_cons]
    by_cases h1 : at_ ≤ p.From
    · have h2 : ¬ p.From < at_ := by omega
      simp [h1, h2]
    · have h2 : p.From < at_ := by omega
      by_cases h3 : at_ < p.To <;> simp [h1, h2, h3]
theorem rdel_eq (at_ : Int) : ∀ l : List Pin, rdel at_ l = deleteL l at_
  | [] => rfl
  | p :: r => by
    have ih := rdel_eq at_ r
    unfold deleteL moved at ih ⊢
    rw [rdel, ih, List.filter_cons]
    by_cases h1 : at_ < p.From
    · have h2 : ¬ p.From ≤ at_ := by omega
      have h4 : at_ + 1 ≤ p.From := by omega
      simp [h1, h2, h4]
    · have h2 : p.From ≤ at_ := by omega
      have h4 : ¬ at_ + 1 ≤ p.From := by omega
      by_cases h3 : at_ < p.To <;> simp [h1, h2, h3, h4]
theorem rins_after : ∀ {l : List Pin} {e n at_ : Int}, Good n e l → at_ ≤ e → Good (n + 1) (e + 1) (rins at_ l)
  | [], _, _, _, _, _ => trivial
  | p :: r, e, n, at_, ⟨h1, h2, h3, h4, h5, h6⟩, h => by
    rw [rins, if_pos (by omega)]
    exact ⟨by simp only [up]; omega, by simp only [up]; omega, by simp only [up]; omega, h4, h5, rins_after h6 (by omega)⟩
theorem rins_good : ∀ {l : List Pin} {e n : Int} (at_ : Int), Good n e l → Good (n + 1) e (rins at_ l)
  | [], _, _, _, _ => trivial
  | p :: r, e, n, at_, ⟨h1, h2, h3, h4, h5, h6⟩ => by
    rw [rins]
    split
    · exact ⟨by simp only [up]; omega, by simp only [up]; omega, by simp only [up]; omega, h4, h5, rins_after h6 (by omega)⟩
    · split
      · exact good_ge (rins_good at_ h6) (by omega)
      · exact ⟨h1, h2, by omega, h4, h5, rins_good at_ h6⟩
theorem rdel_after : ∀ {l : List Pin} {e n at_ : Int}, Good n e l → at_ < e → Good (n - 1) (e - 1) (rdel at_ l)
  | [], _, _, _, _, _ => trivial
  | p :: r, e, n, at_, ⟨h1, h2, h3, h4, h5, h6⟩, h => by
    rw [rdel, if_pos (by omega)]
    exact ⟨by simp only [up]; omega, by simp only [up]; omega, by simp only [up]; omega, h4, h5, rdel_after h6 (by omega)⟩
theorem rdel_good : ∀ {l : List Pin} {e n : Int} {at_ : Int}, Good n e l → e ≤ at_ → at_ < n → Good (n - 1) e (rdel at_ l)
  | [], _, _, _, _, _, _ => trivial
  | p :: r, e, n, at_, ⟨h1, h2, h3, h4, h5, h6⟩, he, hn => by
    rw [rdel]
    split
    · exact ⟨by simp only [up]; omega, by simp only [up]; omega, by simp only [up]; omega, h4, h5, rdel_after h6 (by omega)⟩
    · split
      · exact good_ge (rdel_after h6 (by omega)) (by omega)
      · exact ⟨h1, h2, by omega, h4, h5, rdel_good h6 (by omega) hn⟩
theorem insert_valid {l : List Pin} {n at_ : Int} (h : validB l n = true) (h40 : n < 40) : validB (insertL l at_) (n + 1) = true := by
  rw [valid_iff] at h ⊢
  rw [← rins_eq]
  exact ⟨by omega, by omega, rins_good at_ h.2.2⟩
theorem delete_valid {l : List Pin} {n at_ : Int} (h : validB l n = true) (h0 : 0 ≤ at_) (hn : at_ < n) : validB (deleteL l at_) (n - 1) = true := by
  rw [valid_iff] at h ⊢
  rw [← rdel_eq]
  exact ⟨by omega, by omega, rdel_good h.2.2 h0 hn⟩
theorem back_eq (at_ : Int) : ∀ l : List Pin, rdel at_ (rins at_ l) = l.filter fun p => decide (at_ ≤ p.From) || decide (p.To ≤ at_)
  | [] => rfl
  | p :: r => by
    have ih := back_eq at_ r
    rw [rins, List.filter_cons]
    by_cases h1 : at_ ≤ p.From
    · rw [if_pos h1, rdel, if_pos (by simp only [up]; omega), ih]
      have : up (-1) (up 1 p) = p := by
        unfold up
        have e1 : p.From + 1 + -1 = p.From := by omega
        have e2 : p.To + 1 + -1 = p.To := by omega
        simp only [e1, e2]
      rw [this]
      simp [h1]
    · rw [if_neg h1]
      by_cases h2 : at_ < p.To
      · have h3 : ¬ p.To ≤ at_ := by omega
        rw [if_pos h2, ih]
        simp [h1, h3]
      · have h3 : p.To ≤ at_ := by omega
        rw [if_neg h2, rdel, if_neg (by omega), if_neg h2, ih]
        simp [h3]
theorem mem_more {at_ : Int} {p : Pin} (h : p.To ≤ at_) (h2 : p.From < p.To) : ∀ {l : List Pin}, p ∈ l → p ∈ rins at_ l
  | q :: r, hp => by
    rw [rins]
    rcases List.mem_cons.1 hp with rfl | hp
    · rw [if_neg (by omega), if_neg (by omega)]; simp
    · have := mem_more h h2 hp
      split
      · simp [this]
      · split
        · exact this
        · simp [this]
theorem mem_less {at_ : Int} {p : Pin} (h : p.To ≤ at_) (h2 : p.From < p.To) : ∀ {l : List Pin}, p ∈ l → p ∈ rdel at_ l
  | q :: r, hp => by
    rw [rdel]
    rcases List.mem_cons.1 hp with rfl | hp
    · rw [if_neg (by omega), if_neg (by omega)]; simp
    · have := mem_less h h2 hp
      split
      · simp [this]
      · split
        · exact this
        · simp [this]
end Go.Proofs.Ytdkancgcefklfaa
