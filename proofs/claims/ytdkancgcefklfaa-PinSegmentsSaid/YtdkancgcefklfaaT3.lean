/-
  PinSegments holds of the printed function.
-/
import Derived.Test.YtdkancgcefklfaaS5
import Derived.Test.YtdkancgcefklfaaG8
namespace Go.Proofs.Ytdkancgcefklfaa

def elt (e f : Edge) : Prop := e.From < f.From ∨ (e.From = f.From ∧ (e.To < f.To ∨ (e.To = f.To ∧ e.Word < f.Word)))
def EW (n : Int) (es : List Edge) : Prop := es.Pairwise elt ∧ ∀ e ∈ es, (0 ≤ e.From ∧ e.From < e.To ∧ e.To ≤ n) ∧ (0 ≤ e.Word ∧ e.Word < 3) ∧ e.Cost = e.From + e.Word
/-- all of them lie before a place -/
def before (a b w : Int) (es : List Edge) : Prop := ∀ e ∈ es, e.From < a ∨ (e.From = a ∧ (e.To < b ∨ (e.To = b ∧ e.Word < w)))
theorem ew_snoc {n a b w : Int} {es : List Edge} (h : EW n es) (hb : before a b w es) (ha : 0 ≤ a) (hab : a < b) (hbn : b ≤ n) (hw : 0 ≤ w) (hw3 : w < 3) : EW n (es ++ [⟨a, b, w, a + w⟩]) := by
  refine ⟨List.pairwise_append.2 ⟨h.1, List.pairwise_singleton _ _, fun e he f hf => ?_⟩, fun e he => ?_⟩
  · simp only [List.mem_singleton] at hf; subst hf
    exact hb e he
  · rcases List.mem_append.1 he with he | he
    · exact h.2 e he
    · simp only [List.mem_singleton] at he; subst he
      exact ⟨⟨ha, hab, hbn⟩, ⟨hw, hw3⟩, rfl⟩
theorem latS2 (x : List Arr3U8) {n : Int} {a b : Int} (hn : 1 ≤ n) (hn2 : n ≤ 40) (ha : 0 ≤ a) (hab : a < b) (hb : b ≤ n) {es : List Edge} (he : EW n es) (hbf : before a b 0 es) (hl : es.length ≤ 10000) :
    ∃ r, loop (ref18_Lattice_L2 x n a b) (0, es) = some r ∧ EW n r ∧ before a (b + 1) 0 r ∧ r.length ≤ es.length + 3 := by
  obtain ⟨r, h, h2⟩ := loop_upto (f := ref18_Lattice_L2 x n a b) (fun k s => s.1 = (k : Int) ∧ EW n s.2 ∧ before a b k s.2 ∧ s.2.length ≤ es.length + k) (fun r => EW n r ∧ before a (b + 1) 0 r ∧ r.length ≤ es.length + 3) 3 (s := (0, es)) (by omega) ⟨rfl, he, hbf, by simp⟩ (fun k s hk hj => by
    obtain ⟨i, l⟩ := s
    obtain ⟨rfl, h1, h3, h2⟩ := hj
    simp only at h1 h2 h3
    obtain ⟨d, hd⟩ := lat1 x (a := a) (b := b) (w := (k : Int)) hn hn2
    unfold ref18_Lattice_L2
    simp -implicitDefEqProofs only
    rw [if_pos (by omega), hd, Option.bind_some]
    cases d
    · rw [if_neg (by simp), Option.bind_some, chk_pos (by omega)]
      refine ⟨_, rfl, by simp, h1, fun e hm => ?_, by simp -implicitDefEqProofs only; omega⟩
      have := h3 e hm
      omega
    · rw [if_pos rfl, chk_pos (by omega), chk_pos (by simp; omega), Option.bind_some, chk_pos (by omega)]
      refine ⟨_, rfl, by simp, ew_snoc h1 h3 ha hab hb (by omega) (by omega), fun e hm => ?_, by simp; omega⟩
      rcases List.mem_append.1 hm with hm | hm
      · have := h3 e hm
        omega
      · simp only [List.mem_singleton] at hm; subst hm
        show a < a ∨ (a = a ∧ (b < b ∨ (b = b ∧ (k : Int) < ((k + 1 : Nat) : Int))))
        omega) (fun s hj => by
    obtain ⟨i, l⟩ := s
    obtain ⟨rfl, h1, h3, h2⟩ := hj
    refine ⟨l, ?_, h1, fun e hm => ?_, h2⟩
    · unfold ref18_Lattice_L2
      simp
    · have := h3 e hm
      omega)
  exact ⟨r, h, h2⟩
theorem latS3 (x : List Arr3U8) {n : Int} {a : Int} (hn : 1 ≤ n) (hn2 : n ≤ 40) (ha : 0 ≤ a) (han : a < n) {es : List Edge} (he : EW n es) (hbf : before a 0 0 es) (hl : es.length ≤ 9000) :
    ∃ r, loop (ref18_Lattice_L3 x n a) (a + 1, es) = some r ∧ EW n r ∧ before (a + 1) 0 0 r ∧ r.length ≤ es.length + 120 := by
  obtain ⟨r, h, h2⟩ := loop_upto (f := ref18_Lattice_L3 x n a) (fun k s => s.1 = a + 1 + (k : Int) ∧ EW n s.2 ∧ before a (a + 1 + k) 0 s.2 ∧ s.2.length ≤ es.length + 3 * k) (fun r => EW n r ∧ before (a + 1) 0 0 r ∧ r.length ≤ es.length + 120) (n - a).toNat (s := (a + 1, es)) (by omega) ⟨by simp, he, (fun e hm => by have := hbf e hm; have := he.2 e hm; omega), by simp⟩ (fun k s hk hj => by
    obtain ⟨i, l⟩ := s
    obtain ⟨rfl, h1, h3, h2⟩ := hj
    simp only at h1 h2 h3
    obtain ⟨d, hd, k1, k2, k3⟩ := latS2 x (a := a) (b := a + 1 + (k : Int)) hn hn2 ha (by omega) (by omega) h1 h3 (by omega)
    unfold ref18_Lattice_L3
    simp -implicitDefEqProofs only
    rw [if_pos (by omega), hd, Option.bind_some, chk_pos (by omega)]
    refine ⟨_, rfl, by simp -implicitDefEqProofs only; omega, k1, fun e hm => ?_, by simp -implicitDefEqProofs only; omega⟩
    have := k2 e hm
    omega) (fun s hj => by
    obtain ⟨i, l⟩ := s
    obtain ⟨rfl, h1, h3, h2⟩ := hj
    refine ⟨l, ?_, h1, fun e hm => ?_, by simp only at h2; omega⟩
    · unfold ref18_Lattice_L3
      simp -implicitDefEqProofs only
      rw [if_neg (by omega)]
    · have := h3 e hm
      omega)
  exact ⟨r, h, h2⟩
theorem lattice2 (x : List Arr3U8) {n : Int} (hn : 1 ≤ n) (hn2 : n ≤ 40) : ∃ es, ref18_Lattice x n = some ⟨n, es⟩ ∧ EW n es ∧ es.length ≤ 4800 := by
  obtain ⟨r, h, h1, h2⟩ := loop_upto (f := ref18_Lattice_L4 x n) (fun k s => s.1 = (k : Int) ∧ EW n s.2 ∧ before k 0 0 s.2 ∧ s.2.length ≤ 120 * k) (fun r => EW n r ∧ r.length ≤ 4800) n.toNat (s := (0, [])) (by omega) ⟨rfl, ⟨List.Pairwise.nil, (fun _ h => by simp at h)⟩, (fun _ h => by simp at h), by simp⟩ (fun k s hk hj => by
    obtain ⟨i, l⟩ := s
    obtain ⟨rfl, h1, h3, h2⟩ := hj
    simp only at h1 h2 h3
    obtain ⟨d, hd, k1, k2, k3⟩ := latS3 x (a := (k : Int)) hn hn2 (by omega) (by omega) h1 h3 (by omega)
    unfold ref18_Lattice_L4
    simp -implicitDefEqProofs only
    rw [if_pos (by omega), chk_pos (by omega), hd, Option.bind_some]
    exact ⟨_, rfl, by simp, k1, (fun e hm => by have := k2 e hm; omega), by simp -implicitDefEqProofs only; omega⟩) (fun s hj => by
    obtain ⟨i, l⟩ := s
    obtain ⟨rfl, h1, h3, h2⟩ := hj
    refine ⟨l, ?_, h1, by simp only at h2; omega⟩
    unfold ref18_Lattice_L4
    simp -implicitDefEqProofs only
    rw [if_neg (by omega)])
  refine ⟨r, ?_, h1, h2⟩
  unfold ref18_Lattice
  rw [h]; rfl

/-! ### the pins of a way -/
def pe (e : Edge) : Pin := ⟨e.From, e.To, e.Word⟩
def pl (e : Edge) : Pin := ⟨e.From, e.To, -1⟩
theorem path_drop {n : Int} : ∀ {a : Int} {w : List Edge} (k : Nat), Path n a w → ∃ a', a ≤ a' ∧ Path n a' (w.drop k)
  | a, w, 0, h => ⟨a, by omega, h⟩
  | a, [], k + 1, h => ⟨a, by omega, by simpa using h⟩
  | a, e :: r, k + 1, ⟨h1, h2, _, h4⟩ => by
    obtain ⟨a', h5, h6⟩ := path_drop k h4
    exact ⟨a', by omega, by simpa using h6⟩
theorem path_good {n : Int} {f : Edge → Pin} (hf : ∀ e, (f e).From = e.From ∧ (f e).To = e.To) : ∀ {a : Int} {w : List Edge}, Path n a w → (∀ e ∈ w, -1 ≤ (f e).Word ∧ (f e).Word < 200) → Good n a (w.map f)
  | _, [], _, _ => trivial
  | a, e :: r, ⟨h1, h2, h3, h4⟩, hw => by
    have h5 := hf e
    have h6 := hw e (by simp)
    have ih := path_good hf h4 (fun x hx => hw x (by simp [hx]))
    refine ⟨by omega, by omega, by omega, h6.1, h6.2, ?_⟩
    rw [h5.2]; exact ih
theorem path_put {n a : Int} {f : Edge → Pin} (hf : ∀ e, (f e).From = e.From ∧ (f e).To = e.To) {e : Edge} {r : List Edge} (h : Path n a (e :: r)) : putL (r.map f) (f e) = f e :: r.map f := by
  obtain ⟨h1, h2, h3, h4⟩ := h
  have h5 := hf e
  have hge : ∀ q ∈ r.map f, e.To ≤ q.From := fun q hq => by
    obtain ⟨x, hx, rfl⟩ := List.mem_map.1 hq
    have := path_ge h4 x hx
    have := hf x
    omega
  unfold putL
  rw [List.filter_eq_self.2 (fun q hq => by
    have := hge q hq
    have : ¬ q.From < (f e).To := by omega
    simp [ov, this])]
  exact ins_front fun q hq => by have := hge q hq; omega
theorem not_against {e : Edge} {p : Pin} (h : against e p = false) : (e.From = p.From ∧ e.To = p.To ∧ (p.Word = -1 ∨ p.Word = e.Word)) ∨ (¬ (e.From = p.From ∧ e.To = p.To) ∧ ¬ (e.From < p.To ∧ p.From < e.To)) := by
  unfold against at h
  split at h
  · rename_i h1
    refine .inl ⟨h1.1, h1.2, ?_⟩
    simp at h
    omega
  · rename_i h1
    refine .inr ⟨h1, ?_⟩
    simp at h
    omega
theorem elt_irrefl {e : Edge} : ¬ elt e e := by unfold elt; omega
theorem elt_asymm {e f : Edge} (h : elt e f) : ¬ elt f e := by unfold elt at *; omega
theorem sorted_eq : ∀ {l m : List Edge}, l.Pairwise elt → m.Pairwise elt → (∀ e, e ∈ l ↔ e ∈ m) → l = m
  | [], [], _, _, _ => rfl
  | [], f :: m, _, _, h => absurd ((h f).2 (by simp)) (by simp)
  | e :: l, [], _, _, h => absurd ((h e).1 (by simp)) (by simp)
  | e :: l, f :: m, hl, hm, h => by
    obtain ⟨l1, l2⟩ := List.pairwise_cons.1 hl
    obtain ⟨m1, m2⟩ := List.pairwise_cons.1 hm
    have hef : e = f := by
      rcases List.mem_cons.1 ((h e).1 (by simp)) with h1 | h1
      · exact h1
      · rcases List.mem_cons.1 ((h f).2 (by simp)) with h2 | h2
        · exact h2.symm
        · exact absurd (l1 f h2) (elt_asymm (m1 e h1))
    subst hef
    congr 1
    refine sorted_eq l2 m2 fun x => ⟨fun hx => ?_, fun hx => ?_⟩
    · rcases List.mem_cons.1 ((h x).1 (by simp [hx])) with rfl | h1
      · exact absurd (l1 x hx) elt_irrefl
      · exact h1
    · rcases List.mem_cons.1 ((h x).2 (by simp [hx])) with rfl | h1
      · exact absurd (m1 x hx) elt_irrefl
      · exact h1
theorem path_sorted {n : Int} : ∀ {a : Int} {w : List Edge}, Path n a w → w.Pairwise elt
  | _, [], _ => .nil
  | a, e :: r, ⟨h1, h2, h3, h4⟩ => List.Pairwise.cons (fun f hf => by
      have := path_ge h4 f hf
      unfold elt; omega) (path_sorted h4)
theorem restr_way {n : Int} {es w : List Edge} (he : EW n es) (hp : Path n 0 w) (hm : ∀ e ∈ w, e ∈ es) : restr es (w.map pe) = w := by
  refine sorted_eq (he.1.filter _) (path_sorted hp) fun e => ?_
  unfold restr
  rw [List.mem_filter, List.all_eq_true]
  constructor
  · rintro ⟨h1, h2⟩
    have heo := he.2 e h1
    obtain ⟨x, hx, k1, k2⟩ := path_covers hp e.From (by omega) (by omega)
    have h3 := h2 (pe x) (List.mem_map.2 ⟨x, hx, rfl⟩)
    simp only [Bool.not_eq_true'] at h3
    have hxo := he.2 x (hm x hx)
    rcases not_against h3 with ⟨g1, g2, g3⟩ | ⟨_, g2⟩
    · simp only [pe] at g1 g2 g3
      have : e = x := by
        obtain ⟨a, b, c, d⟩ := e
        obtain ⟨a', b', c', d'⟩ := x
        simp only at *
        simp only [Edge.mk.injEq]
        omega
      rw [this]; exact hx
    · simp only [pe] at g2
      omega
  · intro hew
    refine ⟨hm e hew, fun p hp' => ?_⟩
    obtain ⟨x, hx, rfl⟩ := List.mem_map.1 hp'
    simp only [Bool.not_eq_true']
    unfold against pe
    simp only
    split
    · rename_i h1
      have hg := path_ge hp e hew
      have hg' := path_ge hp x hx
      have : e = x := path_apart hp e hew x hx (by omega) (by omega)
      subst this
      simp
    · rename_i h1
      by_cases h2 : e.From < x.To ∧ x.From < e.To
      · have : e = x := path_apart hp e hew x hx h2.1 h2.2
        subst this
        exact absurd ⟨rfl, rfl⟩ h1
      · simp; omega
theorem restr_loose {n : Int} {es w : List Edge} (he : EW n es) (hp : Path n 0 w) {e : Edge} (h : e ∈ restr es (w.map pl)) : pl e ∈ w.map pl := by
  unfold restr at h
  rw [List.mem_filter, List.all_eq_true] at h
  obtain ⟨h1, h2⟩ := h
  have heo := he.2 e h1
  obtain ⟨x, hx, k1, k2⟩ := path_covers hp e.From (by omega) (by omega)
  have h3 := h2 (pl x) (List.mem_map.2 ⟨x, hx, rfl⟩)
  simp only [Bool.not_eq_true'] at h3
  rcases not_against h3 with ⟨g1, g2, _⟩ | ⟨_, g2⟩
  · simp only [pl] at g1 g2
    exact List.mem_map.2 ⟨x, hx, by simp [pl, g1, g2]⟩
  · simp only [pl] at g2
    omega
theorem loose_len {n : Int} {es w : List Edge} (he : EW n es) (hp : Path n 0 w) (hm : ∀ e ∈ w, e ∈ es) : w.length ≤ (restr es (w.map pl)).length := by
  have h1 := restr_way he hp hm
  rw [← h1]
  conv => rhs; rw [h1]
  unfold restr
  refine List.Sublist.length_le ?_
  have : (es.filter fun e => (w.map pe).all fun p => !against e p) = (es.filter fun e => (w.map pl).all fun p => !against e p).filter fun e => (w.map pe).all fun p => !against e p := by
    rw [List.filter_filter]
    apply List.filter_congr
    intro e _
    rw [Bool.eq_iff_iff, Bool.and_eq_true]
    refine ⟨fun h => ⟨h, ?_⟩, fun h => h.1⟩
    rw [List.all_eq_true] at h ⊢
    intro p hp'
    obtain ⟨x, hx, rfl⟩ := List.mem_map.1 hp'
    have := h (pe x) (List.mem_map.2 ⟨x, hx, rfl⟩)
    simp only [Bool.not_eq_true'] at this ⊢
    rcases not_against this with ⟨g1, g2, _⟩ | ⟨g1, g2⟩
    · simp only [pe] at g1 g2
      simp [against, pl, g1, g2]
    · simp only [pe] at g1 g2
      unfold against pl
      simp only
      rw [if_neg g1]
      simp; omega
  rw [this]
  exact List.filter_sublist

theorem segments1 (x0 : List Arr3U8) (x1 : Arr2U8) : law18_PinSegments x0 x1 = some true := by
  unfold law18_PinSegments
  have hr := n_range x1.x0 (m := 5) (by omega)
  obtain ⟨n, hn⟩ : ∃ n, n = 1 + rem (x1.x0.toNat : Int) 5 := ⟨_, rfl⟩
  rw [sanity1, Option.bind_some, chk_pos (by omega), ← hn]
  obtain ⟨es, hes, hew, hel⟩ := lattice2 x0 (n := n) (by omega) (by omega)
  have heo : EOk n es := fun e he => (hew.2 e he).1
  rw [hes, Option.bind_some]
  have hw1 : ref18_Ways ⟨n, es⟩ 0 = some (wayT es n fuel 0) := by
    unfold ref18_Ways
    exact ways1 ⟨n, es⟩ heo (by simp -implicitDefEqProofs only; omega) (by simp -implicitDefEqProofs only; omega) fuel 0 (by omega) (by simp -implicitDefEqProofs only; omega) (by simp -implicitDefEqProofs only; unfold fuel; omega)
  generalize fuel = K at hw1
  rw [hw1, Option.bind_some]
  have hWm : ∀ w ∈ wayT es n K 0, Path n 0 w ∧ ∀ e ∈ w, e ∈ es := fun w hw => wayT_mem heo hw
  have hWn := wayT_len es n K 0
  generalize wayT es n K 0 = W at *
  by_cases h0 : W.length = 0
  · rw [if_pos (by omega)]
  have hix := rem_range (a := (x1.x1.toNat : Int)) (n := (W.length : Int)) (by omega) (by omega)
  obtain ⟨hp, hm⟩ := hWm _ (at'_mem (l := W) hix.1 hix.2)
  have hL : ∀ s : List Pin × List Pin × Int, law18_PinSegments_L1 x0 x1 W s = (fun (v10, v11, i) =>
      if 0 ≤ i then chk (0 ≤ i ∧ i < ((at' W (rem (x1.x1.toNat : Int) (W.length : Int))).length : Int)) <|
        (pin_Put v10 ⟨(at' (at' W (rem (x1.x1.toNat : Int) (W.length : Int))) i).From, (at' (at' W (rem (x1.x1.toNat : Int) (W.length : Int))) i).To, (at' (at' W (rem (x1.x1.toNat : Int) (W.length : Int))) i).Word⟩ n).bind fun a =>
        (pin_Put v11 ⟨(at' (at' W (rem (x1.x1.toNat : Int) (W.length : Int))) i).From, (at' (at' W (rem (x1.x1.toNat : Int) (W.length : Int))) i).To, -1⟩ n).bind fun b =>
        (if a.2 = 0 then some (!decide (b.2 = 0)) else some true : Option Bool).bind fun v =>
        if v = true then some (.inr (.inl false)) else chk (-9223372036854775808 ≤ i - 1 ∧ i - 1 ≤ 9223372036854775807) <| some (.inl (a.1, b.1, i - 1))
      else some (.inr (.inr (v10, v11)))) s := fun s => by rw [hn]; rfl
  generalize hw : at' W (rem (x1.x1.toNat : Int) (W.length : Int)) = w at *
  have hwl := path_len hp
  have hok : ∀ e ∈ w, (-1 ≤ (pe e).Word ∧ (pe e).Word < 200) ∧ (-1 ≤ (pl e).Word ∧ (pl e).Word < 200) := fun e he => by
    have := hew.2 e (hm e he)
    simp only [pe, pl]; omega
  have hL1 : loop (law18_PinSegments_L1 x0 x1 W) ([], [], (w.length : Int) - 1) = some (.inr (w.map pe, w.map pl)) := by
    refine loop_all (f := law18_PinSegments_L1 x0 x1 W) (fun k => ((w.drop (w.length - k)).map pe, (w.drop (w.length - k)).map pl, (w.length : Int) - 1 - (k : Int))) w.length _ (by omega) (fun k hk => ?_) ?_ ?_
    · rw [hL]
      simp -implicitDefEqProofs only
      have hi : (w.length : Int) - 1 - (k : Int) = ((w.length - 1 - k : Nat) : Int) := by omega
      have hd1 : w.length - k = (w.length - 1 - k) + 1 := by omega
      have hd2 : w.length - (k + 1) = w.length - 1 - k := by omega
      obtain ⟨j, hj⟩ : ∃ j, j = w.length - 1 - k := ⟨_, rfl⟩
      rw [hi, hd1, hd2, ← hj]
      have hjl : j < w.length := by omega
      rw [if_pos (by omega), chk_pos (by omega)]
      obtain ⟨a', ha', hpd⟩ := path_drop j hp
      rw [drop_at hjl] at hpd ⊢
      have hmem : ∀ e ∈ w.drop (j + 1), e ∈ w := fun e he => List.mem_of_mem_drop he
      have hei := at'_mem (l := w) (i := (j : Int)) (by omega) (by omega)
      generalize at' w (j : Int) = e at *
      have hdl : (w.drop (j + 1)).length ≤ w.length := by rw [List.length_drop]; omega
      generalize w.drop (j + 1) = r at *
      have key : ∀ f : Edge → Pin, (∀ e, (f e).From = e.From ∧ (f e).To = e.To) → (∀ e ∈ w, -1 ≤ (f e).Word ∧ (f e).Word < 200) → pin_Put (r.map f) (f e) n = some (f e :: r.map f, 0) := fun f h1 h2 => by
        have g1 : validB (r.map f) n = true := valid_iff.2 ⟨by omega, by omega, good_ge (path_good h1 hpd.2.2.2 (fun x hx => h2 x (hmem x hx))) (by have := hpd.1; have := hpd.2.1; omega)⟩
        have g2 : validB [f e] n = true := by
          have h3 := h1 e
          have h4 := h2 e hei
          obtain ⟨k1, k2, k3, _⟩ := hpd
          exact valid_iff.2 ⟨by omega, by omega, by omega, by omega, by omega, h4.1, h4.2, trivial⟩
        rw [put2 _ _ _ (by simp; omega), g1, g2, path_put h1 hpd]; rfl
      have kp := key pe (fun e => ⟨rfl, rfl⟩) (fun e he => (hok e he).1)
      have kl := key pl (fun e => ⟨rfl, rfl⟩) (fun e he => (hok e he).2)
      have kp : pin_Put (r.map pe) ⟨e.From, e.To, e.Word⟩ n = some (pe e :: r.map pe, 0) := kp
      have kl : pin_Put (r.map pl) ⟨e.From, e.To, -1⟩ n = some (pl e :: r.map pl, 0) := kl
      rw [kp, Option.bind_some, kl, Option.bind_some]
      simp -implicitDefEqProofs only
      simp -implicitDefEqProofs only [if_true, decide_true, Bool.not_true, Option.bind_some, Bool.false_eq_true, if_false]
      rw [chk_pos (by omega)]
      simp
      omega
    · rw [hL]
      simp -implicitDefEqProofs only
      rw [if_neg (by omega)]
      simp
    · simp
  rw [if_neg (by omega), chk_pos (by omega), chk_pos hix, chk_pos (by omega), hL1, Option.bind_some]
  simp -implicitDefEqProofs only
  have hre := restr_len es (w.map pl)
  have hlo := loose_len hew hp hm
  rw [restr2 _ _ (by simp; omega) (by simp -implicitDefEqProofs only; omega), Option.bind_some, restr2 _ _ (by simp; omega) (by simp -implicitDefEqProofs only; omega), Option.bind_some]
  simp -implicitDefEqProofs only
  rw [restr_way hew hp hm, sameE1 _ _ (by simp -implicitDefEqProofs only; omega), decide_eq_true rfl, Option.bind_some, if_pos rfl, decide_eq_false (by omega : ¬ (es.length : Int) < ((restr es (w.map pl)).length : Int)), Option.bind_some, if_neg (by simp)]
  have hlm : ∀ e ∈ restr es (w.map pl), pl e ∈ w.map pl := fun e he => restr_loose hew hp he
  generalize restr es (w.map pl) = z at *
  have hL2 := loop_all (f := law18_PinSegments_L2 (w.map pl) ⟨n, z⟩) (fun k => (k : Int)) z.length (.inr ()) (by omega) (fun k hk => by
    unfold law18_PinSegments_L2
    simp -implicitDefEqProofs only
    have hz := hlm _ (at'_mem (l := z) (i := (k : Int)) (by omega) (by omega))
    have hz : (⟨(at' z (k : Int)).From, (at' z (k : Int)).To, -1⟩ : Pin) ∈ w.map pl := hz
    rw [if_pos (by omega), chk_pos (by omega), has1 _ _ (by simp; omega), Option.bind_some, if_pos (by simpa using hz), chk_pos (by omega)]
    rfl) (by unfold law18_PinSegments_L2; simp) (s := 0) rfl
  rw [hL2, Option.bind_some]
  simp -implicitDefEqProofs only
  rw [if_pos (by omega)]
  rfl
end Go.Proofs.Ytdkancgcefklfaa
