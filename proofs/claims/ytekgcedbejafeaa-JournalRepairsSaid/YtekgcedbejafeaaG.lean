/-
  Walks of both Put.
-/
import Derived.Test.YtekgcedbejafeaaF
import Derived.Deep.RegionHeld3
import Derived.Deep.RegionLaw
import Derived.StillTailTactics
namespace Go.Proofs.Ytekgcedbejafeaa
open Go.RowKit

/-- it returns a new row of bytes and the code k -/
def RetPut (w : World) (l : List UInt8) (k : Int) (en : Ending) (w' : World) : Prop :=
  ∃ v, en = .returned (.tuple #[v, .int .i64 k]) ∧ w'.ownsRow w.heap.size 5 1 v l.length (l.map bV) ∧ Below w.heap.size w w'
theorem info5 : ∃ i, Try.prog.info? 5 = some i ∧ i.zero = some (.int .u8 0) ∧ i.size = 1 ∧ i.bytes = 1 := by
  obtain ⟨i, h1, h2, h3, h4⟩ := info_parts ei5
  exact ⟨i, h1, h2, h3, h4⟩
theorem strCells_bV (l : List UInt8) : Lib.strCells ⟨l.toArray⟩ = l.map bV := by
  simp [Lib.strCells, bV]

set_option maxHeartbeats 400000 in
theorem refPut (A : Option Addr) (c : Nat) (l s : List UInt8) (w : World) (B : Nat) (hB : B ≤ w.heap.size) (h1 : Lies w B A (l.map bV)) (hl : l.length ≤ 100000) (hs : s.length ≤ 100000) :
    Calls Try.prog 14 #[.slice A l.length c, .string ⟨s.toArray⟩] w (if lineB s then RetPut w (l ++ entryL s) 0 else RetPut w [] 3) := by
  obtain ⟨i0, hi0, hz0, hs0, hb0⟩ := info5
  have hel := entryL_length s
  have hsz := str_size (entryL s)
  cases hb : lineB s with
  | true =>
    rw [if_pos rfl]
    have HB := Lib.hid hb
    clear hb
    go_enter Try.func14, Try.ntmps14
    go_wp2_with (first
      | (go_at_call 24; refine (refLineB s _ _ HB.out (by omega)).mono ?_; rintro e w' ⟨rfl, rfl⟩)
      | (go_at_call 21; refine (entry s _ (by omega)).mono ?_; rintro e w' ⟨rfl, rfl⟩)
      | (at_builtin; refine wpList_appN _ rfl (.tmp 12) (.tmp 13) 23 rfl w.heap.size 5 (.int .u8 0) 1 1 Try.underlying23 ei5 rfl (by omega) _ 0 _ rfl (World.ownsRow_lit w #[] 0 (Nat.le_refl _) (by simp [maxLen]) rfl) A l.length c B (l.map bV) rfl (by simp) (h1.below (((Below.refl _ _).alloc (Nat.le_refl _) _).mono hB)) (map_bV_one l) (by omega) (by omega) (by simp) ?_; intro v1 w1 hown1 hg1 hb1 hat1)
      | (at_builtin; go_must (refine Lib.wpList_append_own_string _ rfl (.tmp 15) (.tmp 17) 23 9 rfl w.heap.size 5 i0 Try.underlying23 Try.underlying9 hi0 hz0 hs0 hb0 v1 _ _ rfl hown1 ⟨(entryL s).toArray⟩ rfl (by simp only [maxLen]; omega) (by omega) (by have := hb1.size; simp at this; omega) ?_; intro v2 w2 hown2 hg2 hn2)))
    go_ret2
    refine ⟨v2, rfl, ?_, ?_⟩
    · rw [strCells_bV, str_size] at hown2
      rw [List.map_append, List.length_append]
      simpa using hown2
    · exact (((Below.refl _ _).alloc (Nat.le_refl _) _).trans hb1).trans (grownBy_below hg2 (by have := hb1.size; simp at this; omega) fun k hk => (hown1.lt k hk).1)
  | false =>
    rw [if_neg (by simp)]
    have HB := Lib.hid hb
    clear hb
    go_enter Try.func14, Try.ntmps14
    go_wp2_with (go_at_call 24; refine (refLineB s _ _ HB.out (by omega)).mono ?_; rintro e w' ⟨rfl, rfl⟩)
    go_ret2
    exact ⟨.slice none 0 0, rfl, World.ownsRow_nil _ _ _ _, Below.refl _ _⟩


theorem isLineB (l : List UInt8) (b : Bool) (w : World) (hb : lineB l = b) (hs : l.length ≤ 1000000) :
    Calls Try.prog 22 #[.string ⟨l.toArray⟩] w fun e w' => e = .returned (.bool b) ∧ Below w.heap.size w w' := by
  subst hb
  exact isLine ⟨l.toArray⟩ w (by rw [str_size]; simp only [maxLen]; omega)
theorem sumB (l : List UInt8) (w : World) (hs : l.length ≤ 1000000) :
    Calls Try.prog 23 #[.string ⟨l.toArray⟩] w fun e w' => e = .returned (.string ⟨(sumL l).toArray⟩) ∧ ∃ n, w' = w.drewN n :=
  sum ⟨l.toArray⟩ w (by rw [str_size]; simp only [maxLen]; omega)

theorem step_of {P : Program} {ops : Array Oper} {o : Oper} {a : Act} {w : World} {K : Act → World → Prop} {Q : Exit → Act → World → Prop} {E : Prop} (hgd : o.guard = none) (h : Oper.wp P o a w K Q) :
    if Region.wanted o (yielded ops a.tmps) = true then Oper.wp P o a w K Q else E := by
  have hw : Region.wanted o (yielded ops a.tmps) = true := by simp [Region.wanted, hgd]
  rw [if_pos hw]
  exact h

/-- append of a text onto a slice that came in and is cut to its length: a new row -/
theorem run_append_full (w : World) (ty : TypeId) (A : Option Addr) (B : Nat) (l s : List UInt8) (h1 : Lies w B A (l.map bV)) (hs : 0 < s.length) (hl : l.length + s.length ≤ 1000000) :
    ∃ v' w', (Builtin.append_ #[23, 9] ty #[.slice A l.length l.length, .string ⟨s.toArray⟩]).run Try.prog w = .ok v' w' ∧ w'.ownsRow w.heap.size 5 1 v' (l ++ s).length ((l ++ s).map bV) ∧ Below w.heap.size w w' := by
  obtain ⟨i0, hi0, hz0, hs0, hb0⟩ := info5
  have hsz := str_size s
  have key : ∀ a, A = some a → (∀ j u, (l.map bV)[j]? = some u → w.cell? (a.add j) = some u) → ∃ v' w', (Builtin.append_ #[23, 9] ty #[.slice A l.length l.length, .string ⟨s.toArray⟩]).run Try.prog w = .ok v' w' ∧ w'.ownsRow w.heap.size 5 1 v' (l ++ s).length ((l ++ s).map bV) ∧ Below w.heap.size w w' := by
    intro a ha hcell
    have hr := Lib.run_append_grow_string (P := Try.prog) w 23 9 ty 5 i0 (.int .u8 0) Try.underlying23 Try.underlying9 hi0 hz0 a l.length l.length (l.map bV) (by simp [hs0]) hcell ⟨s.toArray⟩ (by omega) (by omega)
      (by rw [hb0]; exact growslice_fits (by omega) (by omega))
    rw [← ha] at hr
    refine ⟨_, _, hr, ?_, ((Below.refl _ _).drew).alloc (Nat.le_refl _) _⟩
    have hge := grownCap_ge w (l.length + s.length) l.length 5
    have hcm : grownCap w (l.length + s.length) l.length 5 ≤ maxLen := grownCap_le_maxLen w _ _ 5 (by simp only [maxLen]; omega)
    simp only [hsz, List.length_append]
    refine ⟨by simp, .inr ⟨w.heap.size, _, _, rfl, Nat.le_refl _, heap_alloc_new w.drew _, hge, hcm, ?_, ?_⟩⟩
    · have hz1 : (Value.int .u8 0).cells.size = 1 := rfl
      simp [strCells_bV, size_zeroCells, hz1]; omega
    · simp only [Array.toList_append, List.append_assoc, strCells_bV, List.map_append, Nat.mul_one]
      rw [← List.append_assoc]
      exact List.take_left' (by simp)
  cases hA : A with
  | some a =>
    rw [← hA]
    refine key a hA ?_
    by_cases hn : l.map bV = []
    · intro j u hu; rw [hn] at hu; simp at hu
    · obtain ⟨b, o, e, _, hc⟩ := h1 hn
      rw [hA] at e
      simp only [Option.some.injEq] at e
      subst e
      exact cell_add hc
  | none =>
    have hn : l = [] := by
      cases l with
      | nil => rfl
      | cons x r =>
        obtain ⟨b, o, e, _⟩ := h1 (by simp)
        rw [hA] at e; cases e
    subst hn
    obtain ⟨v', w', hr, h2, h3, _⟩ := Lib.run_append_own_string (P := Try.prog) w w.heap.size 23 9 ty 5 i0 Try.underlying23 Try.underlying9 hi0 hz0 hs0 hb0 (.slice none 0 0) 0 [] (World.ownsRow_nil _ _ _ _) ⟨s.toArray⟩
      (by simp only [maxLen]; omega) (by omega) (Nat.le_refl _)
    refine ⟨v', w', hr, ?_, grownBy_below h3 (Nat.le_refl _) (by simp [Value.ownBlock])⟩
    rw [strCells_bV, str_size] at h2
    simpa using h2

theorem wp_append_full {o : Oper} {a : Act} {K : Act → World → Prop} {Q : Exit → Act → World → Prop} (w : World) (s x : Operand)
    (ho : o.op = .call { callee := .builtin .append, args := #[s, x], argTypes := #[23, 9] }) (A : Option Addr) (B : Nat) (l t : List UInt8) (h1 : Lies w B A (l.map bV)) (hs : 0 < t.length) (hl : l.length + t.length ≤ 1000000)
    (e1 : a.eval s = .slice A l.length l.length) (e2 : a.eval x = .string ⟨t.toArray⟩)
    (h : ∀ v' w', w'.ownsRow w.heap.size 5 1 v' (l ++ t).length ((l ++ t).map bV) → Below w.heap.size w w' → K (a.put o.dst v') w') : o.wp Try.prog a w K Q := by
  obtain ⟨v', w', hr, h2, h3⟩ := run_append_full w o.type A B l t h1 hs hl
  unfold Oper.wp execOp
  simp only [ho, resolve, invoke, builtin, Sem.run_bind, Sem.run_pure, Result.andThen_ok, List.map_toArray, List.map_cons, List.map_nil, e1, e2, hr]
  exact h v' w' h2 h3
set_option maxHeartbeats 400000 in
theorem put (A : Option Addr) (c : Nat) (l s : List UInt8) (w : World) (B : Nat) (hB : B ≤ w.heap.size) (h1 : Lies w B A (l.map bV)) (hl : l.length ≤ 100000) (hc : l.length ≤ c) (hs : s.length ≤ 100000) :
    Calls Try.prog 13 #[.slice A l.length c, .string ⟨s.toArray⟩] w (if lineB s then RetPut w (l ++ entryL s) 0 else RetPut w [] 3) := by
  obtain ⟨i0, hi0, hz0, hs0, hb0⟩ := info5
  have hel := entryL_length s
  have hsz := str_size (entryL s)
  cases hb : lineB s with
  | true =>
    rw [if_pos rfl]
    have HB := Lib.hid hb
    clear hb
    go_enter Try.func13, Try.ntmps13
    go_wp2_with (go_at_call 22; refine (isLineB s _ _ HB.out (by omega)).mono ?_; rintro e w1 ⟨rfl, hb1⟩)
    have hl8 := sumL_length s
    have hx8 : ¬ 9223372036854775807 < 9 + s.length := by omega
    have hx9 : ¬ 9223372036854775807 < 9 + s.length + 1 := by omega
    have HE := entry_eq s
    go_region_held3 (fun _ => True) (trivial) (first
      | (go_at_call 23; refine (sumB s _ (by omega)).mono ?_; rintro e w2 ⟨rfl, nd, rfl⟩)
      | (refine step_of rfl (wp_append_full _ (.tmp 15) (.tmp 21) rfl A B l (entryL s) (by exact ((h1.below (hb1.mono hB)).drewN _)) (by omega) (by omega) (by rfl) (by rfl) ?_); intro v2 w2 hown2 hb2))
    go_wp2
    go_ret2
    exact ⟨v2, rfl, ownsRow_base hown2 (by simpa using hb1.size), hb1.trans ((below_drewN _ _ _).trans (hb2.mono (by simpa using hb1.size)))⟩
  | false =>
    rw [if_neg (by simp)]
    have HB := Lib.hid hb
    clear hb
    go_enter Try.func13, Try.ntmps13
    go_wp2_with (go_at_call 22; refine (isLineB s _ _ HB.out (by omega)).mono ?_; rintro e w1 ⟨rfl, hb1⟩)
    go_ret2
    exact ⟨.slice none 0 0, rfl, World.ownsRow_nil _ _ _ _, hb1⟩

end Go.Proofs.Ytekgcedbejafeaa
