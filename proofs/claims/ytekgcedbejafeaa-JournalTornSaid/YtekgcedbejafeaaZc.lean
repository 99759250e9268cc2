/-
  JournalTorn holds, for every input of the law; its row.
-/
import Derived.Test.YtekgcedbejafeaaT
import Derived.Test.YtekgcedbejafeaaY
namespace Go.Proofs.Ytekgcedbejafeaa
open Go.RowKit Go.WideShapes Go.ChangeShapes Go.ChangeAt

theorem torn_calls {H : Type} {enc : TypeId × Value → H} {W : World} {base : Nat} {args : Array Value} {ds : List (DataW H)} {p : List MemPlace}
    (hval : ∀ (j : Nat) t v, Try.f5.params[j]? = some t → args[j]? = some v → Value.okWide Try.prog W .any base t v)
    (hA : DataW.TrodAll enc Try.prog W 0 (fun _ => true) true Try.f5.params.toList args.toList ds p) :
    Calls Try.prog 5 args W fun e W' => e = .returned (.bool true) ∧ Below W.heap.size W W' := by
  rw [Try.params5] at hA hval
  obtain ⟨v0, vs0, d0, ds0, q0, q0e, r0, hA⟩ := open_cons hA
  obtain ⟨v1, vs1, d1, ds1, q1, q1e, r1, hA⟩ := open_cons hA
  have qz := open_nil hA
  obtain rfl : args = #[v0, v1] := by apply Array.ext'; rw [q0e, q1e, qz]
  obtain ⟨A0, n0, c0, rfl⟩ := okWide_slice Try.underlying22 (hval 0 22 v0 rfl rfl)
  obtain ⟨g0, h0, z0, x0, e0, l0, a0⟩ := rd_rows Try.underlying22 Try.underlying23 Try.underlying5 r0
  have m0 : n0 ≤ maxLen := by omega
  obtain ⟨y1, rfl⟩ := okWide_int Try.underlying37 (hval 1 37 v1 rfl rfl)
  obtain ⟨b1, t1, f1⟩ := rd_int Try.underlying37 r1
  simp only [Value.cells, List.cons.injEq, Value.int.injEq, and_true, true_and] at t1
  subst t1
  obtain ⟨k1, rfl, b1⟩ := word_of f1
  exact torn_walk A0 n0 c0 x0 k1 W e0 l0 a0 m0 b1

theorem torn_lifted (os : Os) (started : os.Started) (H : Type) (enc : TypeId × Value → H) :
    ReturnsInHanded {} Try.checked os 5 .any (Rows.journalTornSpec.pre6 enc Try.prog Try.f5 Rows.journalTornRow.domain false) (Rows.journalTornSpec.post enc Try.prog Try.f5 false true false false) := by
  refine returnsInHanded_of_change (C := Try.checked) own0 started (by kernel_rfl) Try.func5
    (ChangeSpec.witness6 (enc := enc) (C := Try.checked) false ⟨#[], #[.slice none 0 0, .int .u16 0], []⟩ 8 (by kernel_rfl) (by kernel_rfl) (by kernel_rfl) (by kernel_rfl)) ?_
  intro W base args ds gs before hval hW _ _
  obtain ⟨p, q, hA, _⟩ := id hW
  refine (torn_calls hval hA).mono ?_
  rintro e W' ⟨rfl, hb⟩
  exact ⟨_, rfl, law_post (P := Try.prog) rfl laidOut (by rw [Try.params5]; intro t ht; simp at ht; rcases ht with rfl | rfl <;> exact ⟨by kernel_rfl, of_decide_eq_true (by kernel_rfl)⟩)
    (fun ds h => by rw [Try.params5] at h; match ds, h with | [a, b], _ => exact ⟨rfl, rfl, rfl⟩) (by kernel_rfl) Try.underlying4 hW hb⟩

theorem torn_holds : Rows.JournalTornSaid :=
  OpenClaim.holds_of_wide 5 Try.f5 rfl rfl rfl rfl rfl rfl rfl ⟨rfl, rfl, rfl, rfl, rfl⟩ rfl rfl rfl rfl rfl (by kernel_rfl) Try.func5 (by kernel_rfl)
    (of_decide_eq_true (by kernel_rfl)) (by unfold Func.isWrapper; first | (rw [if_pos (by decide +kernel)]; kernel_rfl) | (rw [if_neg (by decide +kernel)]; exact ⟨rfl, rfl⟩))
    (fun os started H enc _ => torn_lifted os started H enc)
#print axioms torn_holds

end Go.Proofs.Ytekgcedbejafeaa
