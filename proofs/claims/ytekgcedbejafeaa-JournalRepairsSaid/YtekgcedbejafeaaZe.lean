/-
  JournalRepairs holds, for every input of the law; its row.
-/
import Derived.Test.YtekgcedbejafeaaW
import Derived.Test.YtekgcedbejafeaaY
namespace Go.Proofs.Ytekgcedbejafeaa
open Go.RowKit Go.WideShapes Go.ChangeShapes Go.ChangeAt

theorem repairs_calls {H : Type} {enc : TypeId × Value → H} {W : World} {base : Nat} {args : Array Value} {ds : List (DataW H)} {p : List MemPlace}
    (hval : ∀ (j : Nat) t v, Try.f7.params[j]? = some t → args[j]? = some v → Value.okWide Try.prog W .any base t v)
    (hA : DataW.TrodAll enc Try.prog W 0 (fun _ => true) true Try.f7.params.toList args.toList ds p) :
    Calls Try.prog 7 args W fun e W' => e = .returned (.bool true) ∧ Below W.heap.size W W' := by
  rw [Try.params7] at hA hval
  obtain ⟨v0, vs0, d0, ds0, q0, q0e, r0, hA⟩ := open_cons hA
  obtain ⟨v1, vs1, d1, ds1, q1, q1e, r1, hA⟩ := open_cons hA
  obtain ⟨v2, vs2, d2, ds2, q2, q2e, r2, hA⟩ := open_cons hA
  have qz := open_nil hA
  obtain rfl : args = #[v0, v1, v2] := by apply Array.ext'; rw [q0e, q1e, q2e, qz]
  obtain ⟨A0, n0, c0, rfl⟩ := okWide_slice Try.underlying22 (hval 0 22 v0 rfl rfl)
  obtain ⟨g0, h0, z0, x0, e0, l0, a0⟩ := rd_rows Try.underlying22 Try.underlying23 Try.underlying5 r0
  have m0 : n0 ≤ maxLen := by omega
  obtain ⟨k1, j1, rfl, b1, d1⟩ := two_words (hval 1 42 v1 rfl rfl) r1
  obtain ⟨A2, n2, c2, rfl⟩ := okWide_slice Try.underlying23 (hval 2 23 v2 rfl rfl)
  obtain ⟨g2, h2, z2, x2, e2, l2⟩ := rd_bytes Try.underlying23 Try.underlying5 r2
  have m2 : n2 ≤ maxLen := by omega
  exact repairs_walk A0 n0 c0 x0 k1 j1 A2 n2 c2 x2 W e0 l0 a0 m0 b1 d1 e2 l2 m2

theorem repairs_lifted (os : Os) (started : os.Started) (H : Type) (enc : TypeId × Value → H) :
    ReturnsInHanded {} Try.checked os 7 .any (Rows.journalRepairsSpec.pre6 enc Try.prog Try.f7 Rows.journalRepairsRow.domain false) (Rows.journalRepairsSpec.post enc Try.prog Try.f7 false true false false) := by
  refine returnsInHanded_of_change (C := Try.checked) own0 started (by kernel_rfl) Try.func7
    (ChangeSpec.witness6 (enc := enc) (C := Try.checked) false ⟨#[], #[.slice none 0 0, .agg #[.int .u16 0, .int .u16 0], .slice none 0 0], []⟩ 8 (by kernel_rfl) (by kernel_rfl) (by kernel_rfl) (by kernel_rfl)) ?_
  intro W base args ds gs before hval hW _ _
  obtain ⟨p, q, hA, _⟩ := id hW
  refine (repairs_calls hval hA).mono ?_
  rintro e W' ⟨rfl, hb⟩
  exact ⟨_, rfl, law_post (P := Try.prog) rfl laidOut (by rw [Try.params7]; intro t ht; simp at ht; rcases ht with rfl | rfl | rfl <;> exact ⟨by kernel_rfl, of_decide_eq_true (by kernel_rfl)⟩)
    (fun ds h => by rw [Try.params7] at h; match ds, h with | [a, b, c], _ => exact ⟨rfl, rfl, rfl⟩) (by kernel_rfl) Try.underlying4 hW hb⟩

theorem repairs_holds : Rows.JournalRepairsSaid :=
  OpenClaim.holds_of_wide 7 Try.f7 rfl rfl rfl rfl rfl rfl rfl ⟨rfl, rfl, rfl, rfl, rfl⟩ rfl rfl rfl rfl rfl (by kernel_rfl) Try.func7 (by kernel_rfl)
    (of_decide_eq_true (by kernel_rfl)) (by unfold Func.isWrapper; first | (rw [if_pos (by decide +kernel)]; kernel_rfl) | (rw [if_neg (by decide +kernel)]; exact ⟨rfl, rfl⟩))
    (fun os started H enc _ => repairs_lifted os started H enc)
#print axioms repairs_holds

end Go.Proofs.Ytekgcedbejafeaa
