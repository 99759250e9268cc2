/-
  What the printed functions of chapter 18 compute: lists that are valid, the reference's Put, Insert, Delete.
-/
import Derived.Test.YtdkancgcefklfaaS1
namespace Go.Proofs.Ytdkancgcefklfaa

def pAt (l : List Pin) : Nat → Option Pin
  | 0 => none
  | k + 1 => some (at' l (k : Int))
def eAt (l : List Pin) : Nat → Int
  | 0 => 0
  | k + 1 => (at' l (k : Int)).To
theorem valid1 (l : List Pin) (n : Int) (hl : l.length ≤ 100000) : ref18_Valid l n = some (validB l n) := by
  rw [← valid_eq]
  unfold ref18_Valid validR
  by_cases h0 : n < 0
  · have : ¬ 0 ≤ n := by omega
    simp [h0, this]
  by_cases h40 : 40 < n
  · have : ¬ n ≤ 40 := by omega
    simp [h0, h40, this]
  have e0 : decide (0 ≤ n) = true := by simp; omega
  have e40 : decide (n ≤ 40) = true := by simp; omega
  rw [e0, e40, if_neg h0, decide_eq_false h40]
  have h := loop_sfx (f := ref18_Valid_L1 l n) (fun k => (k : Int)) l.length (fun k => if chkR n (pAt l k) (l.drop k) then .inr () else .inl false) (by omega) (fun k hk => by
    by_cases e : k = l.length
    · subst e; left; simp [ref18_Valid_L1, chkR]
    · have hk : k < l.length := by omega
      have hx : ∀ (q : Option Bool), q = some (match pAt l k with | none => false | some q => decide ((at' l (k : Int)).From < q.To)) → (chk (0 ≤ (k : Int) ∧ (k : Int) < (l.length : Int)) <| if (at' l (k : Int)).From < 0 then some true else if (at' l (k : Int)).To ≤ (at' l (k : Int)).From then some true else if n < (at' l (k : Int)).To then some true
          else if (at' l (k : Int)).Word < (-1) then some true else if 200 ≤ (at' l (k : Int)).Word then some true else q) = some (!okR n (pAt l k) (at' l (k : Int))) := fun q hq => by
        rw [chk_pos (by omega), hq]
        unfold okR
        generalize at' l (k : Int) = p
        by_cases a1 : p.From < 0
        · simp [a1]
        by_cases a2 : p.To ≤ p.From
        · simp [a1, a2]
        by_cases a3 : n < p.To
        · simp [a1, a2, a3]
        by_cases a4 : p.Word < -1
        · simp [a1, a2, a3, a4]
        by_cases a5 : 200 ≤ p.Word
        · simp [a1, a2, a3, a4, a5]
        cases pAt l k <;> simp [a1, a2, a3, a4, a5]
      unfold ref18_Valid_L1
      rw [if_pos (by omega), hx]
      · rw [Option.bind_some, drop_at hk, chkR]
        cases h3 : okR n (pAt l k) (at' l (k : Int))
        · left; simp
        · right
          refine ⟨hk, ?_, ?_⟩
          · rw [if_neg (by simp), chk_pos (by omega)]
            simp
          · rfl
      · cases k with
        | zero => simp [pAt]
        | succ k =>
          rw [if_pos (by omega), chk_pos (by omega), chk_pos (by omega)]
          have : ((k + 1 : Nat) : Int) - 1 = (k : Int) := by omega
          rw [this]
          simp [pAt]) (s := 0) rfl rfl
  rw [Option.bind_some, if_neg (by simp), h, List.drop_zero]
  cases h2 : chkR n none l <;> simp [pAt, h2]
theorem valid2 (l : List Pin) (n : Int) (hl : l.length ≤ 100000) : pin_Valid l n = some (validB l n) := by
  unfold pin_Valid validB
  have h := loop_sfx (f := pin_Valid_L1 l) (fun k => (eAt l k, (k : Int))) l.length (fun k => match chkP (eAt l k) (l.drop k) with | none => .inl false | some e => .inr e) (by omega) (fun k hk => by
    by_cases e : k = l.length
    · subst e; left; simp [pin_Valid_L1, chkP]
    · have hk : k < l.length := by omega
      have hx : (if (at' l (k : Int)).From < eAt l k then some true else if (at' l (k : Int)).To ≤ (at' l (k : Int)).From then some true else if (at' l (k : Int)).Word < (-1) then some true else some (decide (200 ≤ (at' l (k : Int)).Word))) = some (bad (eAt l k) (at' l (k : Int))) := by
        unfold bad
        generalize at' l (k : Int) = p
        by_cases a1 : p.From < eAt l k
        · simp [a1]
        by_cases a2 : p.To ≤ p.From
        · simp [a1, a2]
        by_cases a4 : p.Word < -1
        · simp [a1, a2, a4]
        simp [a1, a2, a4]
      unfold pin_Valid_L1
      simp only
      rw [if_pos (by omega), chk_pos (by omega), hx, Option.bind_some, drop_at hk, chkP]
      cases h3 : bad (eAt l k) (at' l (k : Int))
      · right
        refine ⟨hk, ?_, ?_⟩
        · rw [if_neg (by simp), chk_pos (by omega)]
          simp [eAt]
        · simp [eAt]
      · left; simp) (s := (0, 0)) rfl rfl
  rw [h, List.drop_zero]
  simp only [eAt]
  cases h2 : chkP 0 l with
  | none => simp
  | some e =>
    by_cases h0 : 0 ≤ n
    · by_cases h1 : n ≤ 40 <;> simp [h0, h1]
    · simp [h0]
def pinOf (x : Arr3U8) (n : Int) : Pin := ⟨rem (x.x0.toNat : Int) n, (rem (x.x0.toNat : Int) n + 1) + rem (x.x1.toNat : Int) (n - rem (x.x0.toNat : Int) n), rem (x.x2.toNat : Int) 4 - 1⟩
theorem rem_range {a n : Int} (ha : 0 ≤ a) (hn : 0 < n) : 0 ≤ rem a n ∧ rem a n < n :=
  ⟨Int.tmod_nonneg _ ha, Int.tmod_lt_of_pos _ hn⟩
theorem pin_good (x : Arr3U8) {n : Int} (hn : 1 ≤ n) : 0 ≤ (pinOf x n).From ∧ (pinOf x n).From < (pinOf x n).To ∧ (pinOf x n).To ≤ n ∧ -1 ≤ (pinOf x n).Word ∧ (pinOf x n).Word < 200 := by
  have h1 := rem_range (a := (x.x0.toNat : Int)) (n := n) (by omega) (by omega)
  have h2 := rem_range (a := (x.x1.toNat : Int)) (n := n - rem (x.x0.toNat : Int) n) (by omega) (by omega)
  have h3 := rem_range (a := (x.x2.toNat : Int)) (n := 4) (by omega) (by omega)
  simp only [pinOf]
  omega
theorem pin1 (x : Arr3U8) {n : Int} (hn : 1 ≤ n) (hn2 : n ≤ 1000) : ref18_Pin x n = some (pinOf x n) := by
  have h1 := rem_range (a := (x.x0.toNat : Int)) (n := n) (by omega) (by omega)
  have h2 := rem_range (a := (x.x1.toNat : Int)) (n := n - rem (x.x0.toNat : Int) n) (by omega) (by omega)
  have h3 := rem_range (a := (x.x2.toNat : Int)) (n := 4) (by omega) (by omega)
  unfold ref18_Pin
  rw [chk_pos (by omega), chk_pos (by omega), chk_pos (by omega), chk_pos (by omega), chk_pos (by omega), chk_pos (by omega)]
  rfl
theorem valid_pin (x : Arr3U8) {n : Int} (hn : 1 ≤ n) (hn2 : n ≤ 40) : validB [pinOf x n] n = true := by
  obtain ⟨h1, h2, h3, h4, h5⟩ := pin_good x hn
  exact valid_iff.2 ⟨by omega, hn2, h1, h2, h3, h4, h5, trivial⟩
/-- what the reference's Put has put down up to a place -/
def rpre (p : Pin) : Bool → List Pin → List Pin × Bool
  | d, [] => ([], d)
  | d, q :: r => let x := rpre p (d || decide (p.From ≤ q.From)) r
    ((if !d && decide (p.From ≤ q.From) then [p] else []) ++ ((if ov q p then [] else [q]) ++ x.1), x.2)
theorem rput_pre (p : Pin) : ∀ (d : Bool) (l : List Pin), rput p d l = (rpre p d l).1 ++ (if (rpre p d l).2 then [] else [p])
  | d, [] => by cases d <;> rfl
  | d, q :: r => by
    rw [rput, rpre, rput_pre p _ r]
    simp only [List.append_assoc]
theorem rpre_snoc (p q : Pin) : ∀ (d : Bool) (l : List Pin), rpre p d (l ++ [q]) = ((rpre p d l).1 ++ ((if !(rpre p d l).2 && decide (p.From ≤ q.From) then [p] else []) ++ (if ov q p then [] else [q])), (rpre p d l).2 || decide (p.From ≤ q.From))
  | d, [] => by simp [rpre]
  | d, x :: r => by
    rw [List.cons_append, rpre, rpre_snoc p q _ r, rpre]
    simp only [List.append_assoc]
theorem rpre_len (p : Pin) : ∀ (d : Bool) (l : List Pin), (rpre p d l).1.length ≤ 2 * l.length
  | d, [] => by simp [rpre]
  | d, x :: r => by
    have := rpre_len p (d || decide (p.From ≤ x.From)) r
    rw [rpre]
    simp only [List.length_append, List.length_cons]
    split <;> split <;> simp <;> omega
theorem put1 (l : List Pin) (p : Pin) (n : Int) (hl : l.length ≤ 100000) : ref18_Put l p n = some (if validB l n && validB [p] n then (putL l p, 0) else ([], 180)) := by
  unfold ref18_Put
  rw [valid1 l n hl, valid1 [p] n (by simp)]
  cases hv : validB l n
  · simp
  cases hp : validB [p] n
  · simp
  have h := loop_all (f := ref18_Put_L1 l p) (fun k => ((rpre p false (l.take k)).1, (rpre p false (l.take k)).2, (k : Int))) l.length (rpre p false l) (by omega) (fun k hk => by
    unfold ref18_Put_L1
    simp only
    have hlen := rpre_len p false (l.take k)
    have htk : (l.take k).length = k := by simp; omega
    rw [if_pos (by omega), take_at hk, rpre_snoc]
    generalize rpre p false (l.take k) = s at *
    obtain ⟨s, d⟩ := s
    simp only at hlen ⊢
    have fin : ∀ t : List Pin, t.length ≤ 2 * k + 1 → ((if ov (at' l (k : Int)) p = true then some t else chk ((t.length + ([at' l (k : Int)] : List Pin).length) * 24 ≤ 140737488355328) <| some (t ++ [at' l (k : Int)])) : Option (List Pin)) = some (t ++ if ov (at' l (k : Int)) p then [] else [at' l (k : Int)]) := fun t ht => by
      cases ov (at' l (k : Int)) p
      · rw [if_neg (by simp), chk_pos (by simp; omega)]; simp
      · simp
    cases d
    · rw [if_neg (by simp), chk_pos (by omega), Option.bind_some]
      by_cases h2 : p.From ≤ (at' l (k : Int)).From
      · rw [decide_eq_true h2, if_pos rfl, chk_pos (by simp; omega), Option.bind_some]
        rw [chk_pos (by omega), ov1, Option.bind_some, fin _ (by simp; omega), Option.bind_some, chk_pos (by omega)]
        simp
      · rw [decide_eq_false h2, if_neg (by simp), Option.bind_some]
        rw [chk_pos (by omega), ov1, Option.bind_some, fin _ (by dsimp only; omega), Option.bind_some, chk_pos (by omega)]
        simp
    · rw [if_pos rfl, Option.bind_some, if_neg (by simp), Option.bind_some]
      rw [chk_pos (by omega), ov1, Option.bind_some, fin _ (by dsimp only; omega), Option.bind_some, chk_pos (by omega)]
      simp) (by unfold ref18_Put_L1; simp) (s := ([], false, 0)) rfl
  have hlen := rpre_len p false l
  have hpr := rput_pre p false l
  rw [rput_eq p (valid_sorted hv)] at hpr
  rw [Option.bind_some, if_pos rfl, Option.bind_some, Option.bind_some, if_neg (by simp), h, Option.bind_some]
  generalize rpre p false l = s at *
  obtain ⟨s, d⟩ := s
  simp only at hlen hpr ⊢
  cases d
  · rw [if_neg (by simp), chk_pos (by simp; omega), hpr]; simp
  · simp [hpr]
theorem putL_len (l : List Pin) (p : Pin) : (putL l p).length ≤ l.length + 1 := by
  rw [put_length]
  have := List.length_filter_le (fun q => !ov p q) l
  omega
theorem made1 (x : List Arr3U8) {n : Int} (hn : 1 ≤ n) (hn2 : n ≤ 40) : ∃ l, ref18_Made x n = some l ∧ validB l n = true ∧ l.length ≤ 5 := by
  unfold ref18_Made
  obtain ⟨r, h1, h2⟩ := loop_upto (f := ref18_Made_L1 x n) (fun k s => s.2 = (k : Int) ∧ validB s.1 n = true ∧ s.1.length ≤ k) (fun l => validB l n = true ∧ l.length ≤ 5) (min x.length 5) (s := ([], 0)) (by omega)
    ⟨rfl, valid_iff.2 ⟨by omega, hn2, trivial⟩, by simp⟩ (fun k s hk hj => by
      obtain ⟨l, i⟩ := s
      obtain ⟨rfl, hv, hl⟩ := hj
      simp only at hv hl
      unfold ref18_Made_L1
      simp only
      rw [if_pos (by omega), Option.bind_some, if_pos (by simp; omega), chk_pos (by omega), pin1 _ hn (by omega), Option.bind_some, put1 _ _ _ (by omega), hv, valid_pin _ hn hn2, Option.bind_some]
      rw [chk_pos (by omega)]
      refine ⟨_, rfl, by simp, ?_, ?_⟩
      · exact put_valid hv (valid_pin _ hn hn2)
      · have := putL_len l (pinOf (at' x (k : Int)) n)
        simp; omega) (fun s hj => by
      obtain ⟨l, i⟩ := s
      obtain ⟨rfl, hv, hl⟩ := hj
      simp only at hv hl
      refine ⟨l, ?_, hv, by omega⟩
      unfold ref18_Made_L1
      simp only
      by_cases h : ((min x.length 5 : Nat) : Int) < (x.length : Int)
      · rw [if_pos h, Option.bind_some, if_neg (by simp; omega)]
      · rw [if_neg h, Option.bind_some, if_neg (by simp)])
  exact ⟨r, by rw [h1]; rfl, h2⟩
/-- from and to are small -/
def Sm8 (l : List Pin) : Prop := ∀ p ∈ l, -1000 ≤ p.From ∧ p.From ≤ 1000 ∧ -1000 ≤ p.To ∧ p.To ≤ 1000
theorem valid_small {l : List Pin} {n : Int} (h : validB l n = true) : Sm8 l := fun p hp => by
  obtain ⟨h0, h40, hg⟩ := valid_iff.1 h
  have := good_mem hg p hp
  omega
theorem rins_snoc (a : Int) (q : Pin) : ∀ l : List Pin, rins a (l ++ [q]) = rins a l ++ (if a ≤ q.From then [up 1 q] else if a < q.To then [] else [q])
  | [] => by by_cases h1 : a ≤ q.From <;> by_cases h2 : a < q.To <;> simp [rins, h1, h2]
  | x :: r => by
    rw [List.cons_append, rins, rins_snoc a q r, rins]
    by_cases h1 : a ≤ x.From <;> by_cases h2 : a < x.To <;> simp [h1, h2]
theorem rdel_snoc (a : Int) (q : Pin) : ∀ l : List Pin, rdel a (l ++ [q]) = rdel a l ++ (if a < q.From then [up (-1) q] else if a < q.To then [] else [q])
  | [] => by by_cases h1 : a < q.From <;> by_cases h2 : a < q.To <;> simp [rdel, h1, h2]
  | x :: r => by
    rw [List.cons_append, rdel, rdel_snoc a q r, rdel]
    by_cases h1 : a < x.From <;> by_cases h2 : a < x.To <;> simp [h1, h2]
theorem rins_len (a : Int) : ∀ l : List Pin, (rins a l).length ≤ l.length
  | [] => by simp [rins]
  | x :: r => by
    have := rins_len a r
    rw [rins]; by_cases h1 : a ≤ x.From <;> by_cases h2 : a < x.To <;> simp [h1, h2] <;> omega
theorem rdel_len (a : Int) : ∀ l : List Pin, (rdel a l).length ≤ l.length
  | [] => by simp [rdel]
  | x :: r => by
    have := rdel_len a r
    rw [rdel]; by_cases h1 : a < x.From <;> by_cases h2 : a < x.To <;> simp [h1, h2] <;> omega
theorem insert1 (l : List Pin) (a : Int) (hl : l.length ≤ 100000) (hs : Sm8 l) : ref18_Insert l a = some (rins a l) := by
  unfold ref18_Insert
  have h := loop_all (f := ref18_Insert_L1 l a) (fun k => (rins a (l.take k), (k : Int))) l.length (rins a l) (by omega) (fun k hk => by
    unfold ref18_Insert_L1
    simp only
    have hlen := rins_len a (l.take k)
    have htk : (l.take k).length = k := by simp; omega
    have hsm := hs _ (at'_mem (l := l) (i := (k : Int)) (by omega) (by omega))
    rw [if_pos (by omega), chk_pos (by omega), take_at hk, rins_snoc]
    generalize rins a (l.take k) = s at *
    generalize at' l (k : Int) = p at *
    by_cases h1 : a ≤ p.From
    · rw [if_pos h1, chk_pos (by omega), chk_pos (by omega), Option.bind_some]
      simp -implicitDefEqProofs only
      rw [chk_pos (by simp; omega), chk_pos (by omega)]
      simp [h1, up]
    · by_cases h2 : a < p.To
      · rw [if_neg h1, if_pos h2, chk_pos (by omega), Option.bind_some]
        simp [h1, h2]
      · rw [if_neg h1, if_neg h2, Option.bind_some]
        simp -implicitDefEqProofs only
        rw [chk_pos (by simp; omega), chk_pos (by omega)]
        simp [h1, h2]) (by unfold ref18_Insert_L1; simp) (s := ([], 0)) rfl
  rw [h]; rfl
theorem delete1 (l : List Pin) (a : Int) (hl : l.length ≤ 100000) (hs : Sm8 l) : ref18_Delete l a = some (rdel a l) := by
  unfold ref18_Delete
  have h := loop_all (f := ref18_Delete_L1 l a) (fun k => (rdel a (l.take k), (k : Int))) l.length (rdel a l) (by omega) (fun k hk => by
    unfold ref18_Delete_L1
    simp only
    have hlen := rdel_len a (l.take k)
    have htk : (l.take k).length = k := by simp; omega
    have hsm := hs _ (at'_mem (l := l) (i := (k : Int)) (by omega) (by omega))
    rw [if_pos (by omega), chk_pos (by omega), take_at hk, rdel_snoc]
    generalize rdel a (l.take k) = s at *
    generalize at' l (k : Int) = p at *
    by_cases h1 : a < p.From
    · rw [if_pos h1, chk_pos (by omega), chk_pos (by omega), Option.bind_some]
      simp -implicitDefEqProofs only
      rw [chk_pos (by simp; omega), chk_pos (by omega)]
      simp [h1, up, Int.sub_eq_add_neg]
    · by_cases h2 : a < p.To
      · rw [if_neg h1, if_pos h2, chk_pos (by omega), Option.bind_some]
        simp [h1, h2]
      · rw [if_neg h1, if_neg h2, Option.bind_some]
        simp -implicitDefEqProofs only
        rw [chk_pos (by simp; omega), chk_pos (by omega)]
        simp [h1, h2]) (by unfold ref18_Delete_L1; simp) (s := ([], 0)) rfl
  rw [h]; rfl
end Go.Proofs.Ytdkancgcefklfaa
