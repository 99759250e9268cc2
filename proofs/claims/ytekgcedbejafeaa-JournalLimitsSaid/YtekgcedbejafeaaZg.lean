/-
  JournalLimits holds, for every input of the law; its row.
-/
import Derived.Test.YtekgcedbejafeaaV
import Derived.Test.YtekgcedbejafeaaY
namespace Go.Proofs.Ytekgcedbejafeaa
open Go.RowKit Go.WideShapes Go.ChangeShapes Go.ChangeAt

theorem limits_calls {H : Type} {enc : TypeId × Value → H} {W : World} {base : Nat} {args : Array Value} {ds : List (DataW H)} {p : List MemPlace}
    (hval : ∀ (j : Nat) t v, Try.f9.params[j]? = some t → args[j]? = some v → Value.okWide Try.prog W .any base t v)
    (hA : DataW.TrodAll enc Try.prog W 0 (fun _ => true) true Try.f9.params.toList args.toList ds p) :
    Calls Try.prog 9 args W fun e W' => e = .returned (.bool true) ∧ Below W.heap.size W W' := by
  rw [Try.params9] at hA hval
  obtain ⟨v0, vs0, d0, ds0, q0, q0e, r0, hA⟩ := open_cons hA
  obtain ⟨v1, vs1, d1, ds1, q1, q1e, r1, hA⟩ := open_cons hA
  have qz := open_nil hA
  obtain rfl : args = #[v0, v1] := by apply Array.ext'; rw [q0e, q1e, qz]
  obtain ⟨y0, rfl⟩ := okWide_int Try.underlying5 (hval 0 5 v0 rfl rfl)
  obtain ⟨b0, t0, f0⟩ := rd_int Try.underlying5 r0
  simp only [Value.cells, List.cons.injEq, Value.int.injEq, and_true, true_and] at t0
  subst t0
  obtain ⟨k0, rfl⟩ := byte_of f0
  obtain ⟨y1, rfl⟩ := okWide_int Try.underlying5 (hval 1 5 v1 rfl rfl)
  obtain ⟨b1, t1, f1⟩ := rd_int Try.underlying5 r1
  simp only [Value.cells, List.cons.injEq, Value.int.injEq, and_true, true_and] at t1
  subst t1
  obtain ⟨k1, rfl⟩ := byte_of f1
  exact limits_walk k0 k1 W

theorem limits_lifted (os : Os) (started : os.Started) (H : Type) (enc : TypeId × Value → H) :
    ReturnsInHanded {} Try.checked os 9 .any (Rows.journalLimitsSpec.pre6 enc Try.prog Try.f9 Rows.journalLimitsRow.domain false) (Rows.journalLimitsSpec.post enc Try.prog Try.f9 false true false false) := by
  refine returnsInHanded_of_change (C := Try.checked) own0 started (by kernel_rfl) Try.func9
    (ChangeSpec.witness6 (enc := enc) (C := Try.checked) false ⟨#[], #[.int .u8 0, .int .u8 0], []⟩ 8 (by kernel_rfl) (by kernel_rfl) (by kernel_rfl) (by kernel_rfl)) ?_
  intro W base args ds gs before hval hW _ _
  obtain ⟨p, q, hA, _⟩ := id hW
  refine (limits_calls hval hA).mono ?_
  rintro e W' ⟨rfl, hb⟩
  exact ⟨_, rfl, law_post (P := Try.prog) rfl laidOut (by rw [Try.params9]; intro t ht; simp at ht; rcases ht with rfl | rfl <;> exact ⟨by kernel_rfl, of_decide_eq_true (by kernel_rfl)⟩)
    (fun ds h => by rw [Try.params9] at h; match ds, h with | [a, b], _ => exact ⟨rfl, rfl, rfl⟩) (by kernel_rfl) Try.underlying4 hW hb⟩

theorem limits_holds : Rows.JournalLimitsSaid :=
  OpenClaim.holds_of_wide 9 Try.f9 rfl rfl rfl rfl rfl rfl rfl ⟨rfl, rfl, rfl, rfl, rfl⟩ rfl rfl rfl rfl rfl (by kernel_rfl) Try.func9 (by kernel_rfl)
    (of_decide_eq_true (by kernel_rfl)) (by unfold Func.isWrapper; first | (rw [if_pos (by decide +kernel)]; kernel_rfl) | (rw [if_neg (by decide +kernel)]; exact ⟨rfl, rfl⟩))
    (fun os started H enc _ => limits_lifted os started H enc)
#print axioms limits_holds

end Go.Proofs.Ytekgcedbejafeaa
