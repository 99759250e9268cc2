/-
  The callees' contracts as the laws use them.
-/
import Derived.Test.YtekgcedbejafeaaK
namespace Go.Proofs.Ytekgcedbejafeaa
open Go.RowKit

/-- it returns a slice of texts -/
def RetSt (w : World) (ls : List (List UInt8)) (en : Ending) (w' : World) : Prop :=
  ∃ A n c, en = .returned (.slice A n c) ∧ ls.length = n ∧ Lies w' w'.heap.size A (ls.map sV) ∧ (A = none → c = 0) ∧ n ≤ c ∧ Below w.heap.size w w'
theorem textsC (A : Option Addr) (n c : Nat) (xs : List (Option Addr × Nat × List UInt8)) (k : Nat) (w : World) (hn : xs.length = n) (hl : Lies w w.heap.size A (xs.map slV)) (ha : LiesAll w w.heap.size xs) (hm : n ≤ maxLen) (hk : k ≤ 100) :
    Calls Try.prog 12 #[.slice A n c, .int .i64 k] w (RetSt w (textsL (xs.map (·.2.2)) k)) := by
  subst hn
  refine (texts A c xs k w _ (Nat.le_refl _) hl ha hm hk).mono ?_
  rintro e w' ⟨v, rfl, hown, hb⟩
  obtain ⟨A', c', rfl, h2, _, h3, h4⟩ := own_open hown
  exact ⟨A', _, c', rfl, by simp, h2, h3, h4, hb⟩
theorem textL_ok (l : List UInt8) : lineB (textL l) = true := by
  have h1 : (textL l).length ≤ 30 := by simp [textL]; omega
  simp only [lineB, Bool.and_eq_true, decide_eq_true_eq, List.all_eq_true]
  refine ⟨fun c hc => ?_, by omega⟩
  simp only [textL, List.mem_map] at hc
  obtain ⟨b, _, rfl⟩ := hc
  have := b.toNat_lt
  simp [okb, UInt8.toNat_add, UInt8.toNat_mod]; omega
theorem textL_len (l : List UInt8) : (textL l).length ≤ 30 := by simp [textL]; omega
theorem textsL_ok (l : List (List UInt8)) (k : Nat) : Lines (textsL l k) := by
  intro x hx
  simp only [textsL, List.mem_map] at hx
  obtain ⟨y, _, rfl⟩ := hx
  exact textL_ok y
theorem textsL_short (l : List (List UInt8)) (k : Nat) : (textsL l k).length ≤ k ∧ ∀ x ∈ textsL l k, x.length ≤ 30 := by
  refine ⟨by simp [textsL]; omega, fun x hx => ?_⟩
  simp only [textsL, List.mem_map] at hx
  obtain ⟨y, _, rfl⟩ := hx
  exact textL_len y
theorem bytesL_short (ls : List (List UInt8)) (h : ∀ l ∈ ls, l.length ≤ 30) : (bytesL ls).length ≤ ls.length * 40 := by
  induction ls with
  | nil => simp [bytesL]
  | cons x r ih =>
    have h1 := h x (by simp)
    have h2 := ih fun l hl => h l (by simp [hl])
    have : bytesL (x :: r) = entryL x ++ bytesL r := rfl
    rw [this, List.length_append, entryL_length]; simp; omega
/-- it returns a slice of bytes that can be written, in a block of its own -/
def RetOB (w : World) (l : List UInt8) (en : Ending) (w' : World) : Prop :=
  ∃ g n c, en = .returned (.slice (some ⟨g, 0, none⟩) n c) ∧ l.length = n ∧ OwnB w' w.heap.size (.slice (some ⟨g, 0, none⟩) n c) l ∧ Lies w' w'.heap.size (some ⟨g, 0, none⟩) (l.map bV) ∧ n ≤ c ∧ Below w.heap.size w w'
theorem OwnB.lies {w : World} {base g n c : Nat} {l : List UInt8} (h : OwnB w base (.slice (some ⟨g, 0, none⟩) n c) l) : Lies w w.heap.size (some ⟨g, 0, none⟩) (l.map bV) ∧ l.length = n ∧ n ≤ c ∧ base ≤ g := by
  obtain ⟨g', cap, cur, fr, e, h1, h2, h3, h4, h5, h6, h7⟩ := h
  simp only [Value.slice.injEq, Option.some.injEq, Addr.mk.injEq, and_true] at e
  obtain ⟨rfl, rfl, rfl⟩ := e
  exact ⟨lies_block h2 (by simpa using h7), rfl, h3, h1⟩
theorem bytesC (A : Option Addr) (n c : Nat) (ls : List (List UInt8)) (w : World) (hn : ls.length = n) (h1 : Lies w w.heap.size A (ls.map sV)) (hx : n ≤ 1000) (hb : ∀ x ∈ ls, x.length ≤ 1000) (l : List UInt8) (hl : bytesL ls = l) :
    Calls Try.prog 11 #[.slice A n c] w (RetOB w l) := by
  subst hn
  subst hl
  refine (bytes A c ls w _ h1 hx hb).mono ?_
  rintro e w' ⟨v, rfl, hown, hb⟩
  obtain ⟨g, cap, cur, fr, rfl, hr⟩ := id hown
  obtain ⟨h2, h3, h4, _⟩ := OwnB.lies hown
  exact ⟨g, _, cap, rfl, rfl, hown, h2, h4, hb⟩
theorem refPutC (A : Option Addr) (n c : Nat) (l s : List UInt8) (w : World) (hn : l.length = n) (h1 : Lies w w.heap.size A (l.map bV)) (hl : n ≤ 100000) (hs : s.length ≤ 100000) (b : Bool) (hb : lineB s = b) :
    Calls Try.prog 14 #[.slice A n c, .string ⟨s.toArray⟩] w (RetPut w (if b then l ++ entryL s else []) (if b then 0 else 3)) := by
  subst hn
  have := refPut A c l s w _ (Nat.le_refl _) h1 hl hs
  rw [hb] at this
  cases b <;> exact this
theorem putC (A : Option Addr) (n c : Nat) (l s : List UInt8) (w : World) (hn : l.length = n) (h1 : Lies w w.heap.size A (l.map bV)) (hl : n ≤ 100000) (hc : n ≤ c) (hs : s.length ≤ 100000) (b : Bool) (hb : lineB s = b) :
    Calls Try.prog 13 #[.slice A n c, .string ⟨s.toArray⟩] w (RetPut w (if b then l ++ entryL s else []) (if b then 0 else 3)) := by
  subst hn
  have := put A c l s w _ (Nat.le_refl _) h1 hl hc hs
  rw [hb] at this
  cases b <;> exact this
theorem refReadC (A : Option Addr) (n c : Nat) (l : List UInt8) (w : World) (hn : l.length = n) (h1 : Lies w w.heap.size A (l.map bV)) (hl : n ≤ 100000) (hc : n ≤ c)
    (ls : List (List UInt8)) (k : Nat) (hr : readL l = ls) (hk : bytesOf ls = k) :
    Calls Try.prog 16 #[.slice A n c] w (RetRead w ls k) := by
  subst hn
  have h := refRead A c l w _ (Nat.le_refl _) h1 hl hc
  rw [readR_eq] at h
  change Calls _ _ _ _ (RetLines w (readL l) (bytesOf (readL l))) at h
  rw [hr, hk] at h
  refine h.mono ?_
  rintro e w' ⟨v, rfl, hown, hb⟩
  obtain ⟨A', c', rfl, h2, _, _, h3⟩ := own_open hown
  exact ⟨A', _, c', rfl, rfl, by simpa using h2, h3, hb⟩
/-- what Put leaves, opened -/
theorem put_open {w : World} {l : List UInt8} {k : Int} {en : Ending} {w' : World} (h : RetPut w l k en w') : ∃ A n c, en = .returned (.tuple #[.slice A n c, .int .i64 k]) ∧ l.length = n ∧ Lies w' w'.heap.size A (l.map bV) ∧ (A = none → c = 0) ∧ n ≤ c ∧ Below w.heap.size w w' := by
  obtain ⟨v, rfl, hown, hb⟩ := h
  obtain ⟨A, c, rfl, h1, _, h2, h3⟩ := own_open hown
  exact ⟨A, _, c, rfl, rfl, h1, h2, h3, hb⟩

end Go.Proofs.Ytekgcedbejafeaa
