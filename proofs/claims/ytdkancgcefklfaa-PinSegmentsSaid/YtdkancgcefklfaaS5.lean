/-
  What the printed functions of chapter 18 compute: lattices, ways, sanity.
-/
import Derived.Test.YtdkancgcefklfaaS4
namespace Go.Proofs.Ytdkancgcefklfaa

def EOk (n : Int) (es : List Edge) : Prop := ∀ e ∈ es, 0 ≤ e.From ∧ e.From < e.To ∧ e.To ≤ n
theorem lat1 (x : List Arr3U8) {n a b w : Int} (hn : 1 ≤ n) (hn2 : n ≤ 40) : ∃ r, loop (ref18_Lattice_L1 x n a b w) (false, 0) = some r := by
  obtain ⟨r, h, _⟩ := loop_upto (f := ref18_Lattice_L1 x n a b w) (fun k s => s.2 = (k : Int)) (fun _ => True) (min x.length 14) (s := (false, 0)) (by omega) rfl (fun k s hk hj => by
    obtain ⟨d, i⟩ := s
    obtain rfl : i = (k : Int) := hj
    unfold ref18_Lattice_L1
    simp -implicitDefEqProofs only
    have hx : ∀ q : Bool, ((if q = true then some true else if (pinOf (at' x (k : Int)) n).From = a then if (pinOf (at' x (k : Int)) n).To = b then some (decide (rem (((at' x (k : Int)).x2).toNat : Int) 3 = w)) else some false else some false) : Option Bool) = some (q || (decide ((pinOf (at' x (k : Int)) n).From = a) && (decide ((pinOf (at' x (k : Int)) n).To = b) && decide (rem (((at' x (k : Int)).x2).toNat : Int) 3 = w)))) := fun q => by
      cases q
      · by_cases h1 : (pinOf (at' x (k : Int)) n).From = a
        · by_cases h2 : (pinOf (at' x (k : Int)) n).To = b <;> simp [h1, h2]
        · simp [h1]
      · simp
    rw [if_pos (by omega), Option.bind_some, if_pos (by simp; omega), chk_pos (by omega), pin1 _ hn (by omega), Option.bind_some, hx, Option.bind_some, chk_pos (by omega)]
    exact ⟨_, rfl, by simp⟩) (fun s hj => by
    obtain ⟨d, i⟩ := s
    obtain rfl : i = _ := hj
    unfold ref18_Lattice_L1
    simp -implicitDefEqProofs only
    by_cases h : ((min x.length 14 : Nat) : Int) < (x.length : Int)
    · rw [if_pos h, Option.bind_some, if_neg (by simp; omega)]; exact ⟨_, rfl, trivial⟩
    · rw [if_neg h, Option.bind_some, if_neg (by simp)]; exact ⟨_, rfl, trivial⟩)
  exact ⟨r, h⟩
theorem lat2 (x : List Arr3U8) {n : Int} {a b : Int} (hn : 1 ≤ n) (hn2 : n ≤ 40) (ha : 0 ≤ a) (hab : a < b) (hb : b ≤ n) {es : List Edge} (he : EOk n es) (hl : es.length ≤ 10000) :
    ∃ r, loop (ref18_Lattice_L2 x n a b) (0, es) = some r ∧ EOk n r ∧ r.length ≤ es.length + 3 := by
  obtain ⟨r, h, h2⟩ := loop_upto (f := ref18_Lattice_L2 x n a b) (fun k s => s.1 = (k : Int) ∧ EOk n s.2 ∧ s.2.length ≤ es.length + k) (fun r => EOk n r ∧ r.length ≤ es.length + 3) 3 (s := (0, es)) (by omega) ⟨rfl, he, by simp⟩ (fun k s hk hj => by
    obtain ⟨i, l⟩ := s
    obtain ⟨rfl, h1, h2⟩ := hj
    simp only at h1 h2
    obtain ⟨d, hd⟩ := lat1 x (a := a) (b := b) (w := (k : Int)) hn hn2
    unfold ref18_Lattice_L2
    simp -implicitDefEqProofs only
    rw [if_pos (by omega), hd, Option.bind_some]
    cases d
    · rw [if_neg (by simp), Option.bind_some, chk_pos (by omega)]
      exact ⟨_, rfl, by simp, h1, by simp -implicitDefEqProofs only; omega⟩
    · rw [if_pos rfl, chk_pos (by omega), chk_pos (by simp; omega), Option.bind_some, chk_pos (by omega)]
      refine ⟨_, rfl, by simp, ?_, by simp; omega⟩
      intro e hm
      rcases List.mem_append.1 hm with hm | hm
      · exact h1 e hm
      · simp at hm; subst hm; exact ⟨ha, hab, hb⟩) (fun s hj => by
    obtain ⟨i, l⟩ := s
    obtain ⟨rfl, h1, h2⟩ := hj
    refine ⟨l, ?_, h1, h2⟩
    unfold ref18_Lattice_L2
    simp)
  exact ⟨r, h, h2⟩
theorem lat3 (x : List Arr3U8) {n : Int} {a : Int} (hn : 1 ≤ n) (hn2 : n ≤ 40) (ha : 0 ≤ a) (han : a < n) {es : List Edge} (he : EOk n es) (hl : es.length ≤ 9000) :
    ∃ r, loop (ref18_Lattice_L3 x n a) (a + 1, es) = some r ∧ EOk n r ∧ r.length ≤ es.length + 120 := by
  obtain ⟨r, h, h2⟩ := loop_upto (f := ref18_Lattice_L3 x n a) (fun k s => s.1 = a + 1 + (k : Int) ∧ EOk n s.2 ∧ s.2.length ≤ es.length + 3 * k) (fun r => EOk n r ∧ r.length ≤ es.length + 120) (n - a).toNat (s := (a + 1, es)) (by omega) ⟨by simp, he, by simp⟩ (fun k s hk hj => by
    obtain ⟨i, l⟩ := s
    obtain ⟨rfl, h1, h2⟩ := hj
    simp only at h1 h2
    obtain ⟨d, hd, h3, h4⟩ := lat2 x (a := a) (b := a + 1 + (k : Int)) hn hn2 ha (by omega) (by omega) h1 (by omega)
    unfold ref18_Lattice_L3
    simp -implicitDefEqProofs only
    rw [if_pos (by omega), hd, Option.bind_some, chk_pos (by omega)]
    exact ⟨_, rfl, by simp -implicitDefEqProofs only; omega, h3, by simp -implicitDefEqProofs only; omega⟩) (fun s hj => by
    obtain ⟨i, l⟩ := s
    obtain ⟨rfl, h1, h2⟩ := hj
    refine ⟨l, ?_, h1, by simp only at h2; omega⟩
    unfold ref18_Lattice_L3
    simp -implicitDefEqProofs only
    rw [if_neg (by omega)])
  exact ⟨r, h, h2⟩
theorem lattice1 (x : List Arr3U8) {n : Int} (hn : 1 ≤ n) (hn2 : n ≤ 40) : ∃ es, ref18_Lattice x n = some ⟨n, es⟩ ∧ EOk n es ∧ es.length ≤ 4800 := by
  obtain ⟨r, h, h1, h2⟩ := loop_upto (f := ref18_Lattice_L4 x n) (fun k s => s.1 = (k : Int) ∧ EOk n s.2 ∧ s.2.length ≤ 120 * k) (fun r => EOk n r ∧ r.length ≤ 4800) n.toNat (s := (0, [])) (by omega) ⟨rfl, (fun _ h => by simp at h), by simp⟩ (fun k s hk hj => by
    obtain ⟨i, l⟩ := s
    obtain ⟨rfl, h1, h2⟩ := hj
    simp only at h1 h2
    obtain ⟨d, hd, h3, h4⟩ := lat3 x (a := (k : Int)) hn hn2 (by omega) (by omega) h1 (by omega)
    unfold ref18_Lattice_L4
    simp -implicitDefEqProofs only
    rw [if_pos (by omega), chk_pos (by omega), hd, Option.bind_some]
    exact ⟨_, rfl, by simp, h3, by simp -implicitDefEqProofs only; omega⟩) (fun s hj => by
    obtain ⟨i, l⟩ := s
    obtain ⟨rfl, h1, h2⟩ := hj
    refine ⟨l, ?_, h1, by simp only at h2; omega⟩
    unfold ref18_Lattice_L4
    simp -implicitDefEqProofs only
    rw [if_neg (by omega)])
  refine ⟨r, ?_, h1, h2⟩
  unfold ref18_Lattice
  rw [h]; rfl
theorem path_len {n : Int} : ∀ {a : Int} {w : List Edge}, Path n a w → (w.length : Int) ≤ n - a
  | a, [], h => by unfold Path at h; simp; omega
  | a, e :: r, ⟨h1, h2, h3, h4⟩ => by
    have := path_len h4
    simp; omega
theorem wayT_len (es : List Edge) (n : Int) (k : Nat) (a : Int) : (wayT es n k a).length ≤ 300 := by
  rw [wayT_eq, List.length_take]; omega
theorem wayT_mem {es : List Edge} {n : Int} (he : EOk n es) {k : Nat} {a : Int} {w : List Edge} (h : w ∈ wayT es n k a) : Path n a w ∧ ∀ e ∈ w, e ∈ es := by
  rw [wayT_eq] at h
  exact full_path (fun e h => (he e h).2) k a w (List.mem_of_mem_take h)
theorem ways1 (x : Lattice) (he : EOk x.N x.Edges) (hn2 : x.N ≤ 1000) (hl : x.Edges.length ≤ 10000) : ∀ (k : Nat) (a : Int), 0 ≤ a → a ≤ x.N → (x.N - a).toNat < k → ref18_Ways' k x a = some (wayT x.Edges x.N k a)
  | 0, a, _, _, h => by omega
  | k + 1, a, ha, han, h => by
    rw [ref18_Ways', wayT]
    by_cases hx : a = x.N
    · rw [if_pos hx, if_pos hx, chk_pos (by simp)]; rfl
    · rw [if_neg hx, if_neg hx]
      have hfl : ∀ j : Nat, ∀ g : Int → List (List Edge), ((x.Edges.take j).foldl (step g a) []).length ≤ 300 := fun j g => by
        have : ∀ (l : List Edge) (out : List (List Edge)), out.length ≤ 300 → (l.foldl (step g a) out).length ≤ 300 := by
          intro l
          induction l with
          | nil => exact fun out h => h
          | cons e r ih =>
            intro out ho
            rw [List.foldl_cons]
            refine ih _ ?_
            unfold step
            split
            · rw [List.length_append, List.length_take]; omega
            · exact ho
        exact this _ _ (by simp)
      have h1 := loop_all (f := ref18_Ways_L2 (ref18_Ways' k) x a) (fun j => ((x.Edges.take j).foldl (step (wayT x.Edges x.N k) a) [], (j : Int))) x.Edges.length (x.Edges.foldl (step (wayT x.Edges x.N k) a) []) (by omega) (fun j hj => by
        have hm := at'_mem (l := x.Edges) (i := (j : Int)) (by omega) (by omega)
        have hlen := hfl j (wayT x.Edges x.N k)
        rw [take_at hj, List.foldl_append]
        generalize (x.Edges.take j).foldl (step (wayT x.Edges x.N k) a) [] = out at *
        simp only [List.foldl_cons, List.foldl_nil]
        unfold ref18_Ways_L2 step
        simp -implicitDefEqProofs only
        rw [if_pos (by omega), chk_pos (by omega)]
        by_cases hf : (at' x.Edges (j : Int)).From = a
        · have heo := he _ hm
          rw [if_pos hf, if_pos hf, ways1 x he hn2 hl k _ (by omega) (by omega) (by omega), Option.bind_some]
          generalize hw : wayT x.Edges x.N k (at' x.Edges (j : Int)).To = W
          have hWl : W.length ≤ 300 := by rw [← hw]; exact wayT_len _ _ _ _
          have h2 := loop_all (f := ref18_Ways_L1 x (j : Int) W) (fun i => (out ++ (W.take i).map (at' x.Edges (j : Int) :: ·), (i : Int))) (min W.length (300 - out.length)) (out ++ (W.map (at' x.Edges (j : Int) :: ·)).take (300 - out.length)) (by omega) (fun i hi => by
            have hwi : at' W (i : Int) ∈ W := at'_mem (by omega) (by omega)
            have hp := path_len (wayT_mem (k := k) (a := (at' x.Edges (j : Int)).To) (w := at' W (i : Int)) he (by rw [hw]; exact hwi)).1
            have heo' := he _ hm
            unfold ref18_Ways_L1
            simp -implicitDefEqProofs only
            rw [if_pos (by omega), Option.bind_some, if_pos (by simp; omega), chk_pos (by omega), chk_pos (by omega), chk_pos (by simp; omega), chk_pos (by simp; omega), chk_pos (by omega)]
            rw [take_at (by omega)]
            simp) (by
            unfold ref18_Ways_L1
            simp -implicitDefEqProofs only
            have e1 : (W.take (min W.length (300 - out.length))).map (at' x.Edges (j : Int) :: ·) = (W.map (at' x.Edges (j : Int) :: ·)).take (300 - out.length) := by
              rw [← List.map_take]
              congr 1
              by_cases hc : W.length ≤ 300 - out.length
              · rw [Nat.min_eq_left hc, List.take_length, List.take_of_length_le hc]
              · rw [Nat.min_eq_right (by omega)]
            rw [e1]
            by_cases hc : ((min W.length (300 - out.length) : Nat) : Int) < (W.length : Int)
            · rw [if_pos hc, Option.bind_some, if_neg (by simp; omega)]
            · rw [if_neg hc, Option.bind_some, if_neg (by simp)]) (s := (out, 0)) (by simp)
          rw [h2, Option.bind_some, chk_pos (by omega)]
          simp
        · rw [if_neg hf, if_neg hf, chk_pos (by omega)]
          simp) (by unfold ref18_Ways_L2; simp) (s := ([], 0)) rfl
      rw [h1]; rfl
theorem sameW1 (a b : List (List Edge)) (hl : a.length ≤ 100000) (hw : ∀ w ∈ a, w.length ≤ 100000) : ref18_SameWays a b = some (decide (a = b)) := by
  unfold ref18_SameWays
  by_cases hab : a.length = b.length
  · rw [if_pos (by omega)]
    have h := loop_sfx (f := ref18_SameWays_L1 a b) (fun k => (k : Int)) a.length (fun k => if a.drop k = b.drop k then .inr () else .inl false) (by omega) (fun k hk => by
      by_cases e : k = a.length
      · subst e; left; simp [ref18_SameWays_L1, hab]
      · have hk : k < a.length := by omega
        unfold ref18_SameWays_L1
        rw [if_pos (by omega), chk_pos (by omega), chk_pos (by omega), sameE1 _ _ (hw _ (at'_mem (by omega) (by omega))), Option.bind_some]
        by_cases h2 : at' a k = at' b k
        · right
          refine ⟨hk, ?_, ?_⟩
          · rw [if_pos (by simp [h2]), chk_pos (by omega)]; simp
          · simp [list_ext_at k hab hk, h2]
        · left; simp [list_ext_at k hab hk, h2]) (s := 0) rfl rfl
    rw [h, List.drop_zero, List.drop_zero]
    by_cases h2 : a = b <;> simp [h2]
  · rw [if_neg (by omega)]
    have : ¬ a = b := fun e => hab (by rw [e])
    simp [this]
theorem sanity1 : law18_sanity = some true := by kernel_rfl
theorem n_range (x : UInt8) {m : Int} (hm : 0 < m) : 0 ≤ rem (x.toNat : Int) m ∧ rem (x.toNat : Int) m < m := rem_range (by omega) hm
theorem restr_len (es : List Edge) (l : List Pin) : (restr es l).length ≤ es.length := List.length_filter_le _ _
end Go.Proofs.Ytdkancgcefklfaa
