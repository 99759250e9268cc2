/-
  JournalMatchesReference: Put and Read agree with the reference implementation, for every input of the law; its row.
-/
import Derived.Test.YtekgcedbejafeaaN
import Derived.Test.YtekgcedbejafeaaY
namespace Go.Proofs.Ytekgcedbejafeaa
open Go.RowKit Go.WideShapes Go.ChangeShapes Go.ChangeAt

theorem match_calls {H : Type} {enc : TypeId × Value → H} {W : World} {base : Nat} {args : Array Value} {ds : List (DataW H)} {p : List MemPlace}
    (hval : ∀ (j : Nat) t v, Try.f3.params[j]? = some t → args[j]? = some v → Value.okWide Try.prog W .any base t v)
    (hA : DataW.TrodAll enc Try.prog W 0 (fun _ => true) true Try.f3.params.toList args.toList ds p) :
    Calls Try.prog 3 args W fun e W' => e = .returned (.bool true) ∧ Below W.heap.size W W' := by
  rw [Try.params3] at hA hval
  obtain ⟨v0, vs0, d0, ds0, q0, e0, r0, hA⟩ := open_cons hA
  obtain ⟨v1, vs1, d1, ds1, q1, e1, r1, hA⟩ := open_cons hA
  obtain ⟨v2, vs2, d2, ds2, q2, e2, r2, hA⟩ := open_cons hA
  have e3 := open_nil hA
  obtain rfl : args = #[v0, v1, v2] := by apply Array.ext'; rw [e0, e1, e2, e3]
  obtain ⟨A, n, c, rfl⟩ := okWide_slice Try.underlying22 (hval 0 22 v0 rfl rfl)
  obtain ⟨A2, n2, c2, rfl⟩ := okWide_slice Try.underlying23 (hval 1 23 v1 rfl rfl)
  obtain ⟨s, rfl⟩ := okWide_string Try.underlying9 (hval 2 9 v2 rfl rfl)
  obtain ⟨h1, h2, h3, xs, h4, h5, h6⟩ := rd_rows Try.underlying22 Try.underlying23 Try.underlying5 r0
  obtain ⟨g1, g2, g3, more, g4, g5⟩ := rd_bytes Try.underlying23 Try.underlying5 r1
  obtain ⟨s', k1, k2⟩ := rd_string Try.underlying9 r2
  simp only [Value.cells, List.cons.injEq, Value.string.injEq, and_true] at k1
  subst k1
  by_cases hbig : 60 < n2 ∨ 220 < s'.length
  · exact match_big A n c A2 n2 c2 s' W k2 (by omega) hbig
  · exact match_small A n c xs A2 n2 c2 more s' W h4 h5 h6 (by omega) g4 g5 g3 g1 (by omega) (by omega)

theorem match_lifted (os : Os) (started : os.Started) (H : Type) (enc : TypeId × Value → H) :
    ReturnsInHanded {} Try.checked os 3 .any (Rows.journalMatchesReferenceSpec.pre6 enc Try.prog Try.f3 Rows.journalMatchesReferenceRow.domain false) (Rows.journalMatchesReferenceSpec.post enc Try.prog Try.f3 false true false false) := by
  refine returnsInHanded_of_change (C := Try.checked) own0 started (by kernel_rfl) Try.func3
    (ChangeSpec.witness6 (enc := enc) (C := Try.checked) false ⟨#[], #[.slice none 0 0, .slice none 0 0, .string ⟨#[]⟩], []⟩ 8 (by kernel_rfl) (by kernel_rfl) (by kernel_rfl) (by kernel_rfl)) ?_
  intro W base args ds gs before hval hW _ _
  obtain ⟨p, q, hA, _⟩ := id hW
  refine (match_calls hval hA).mono ?_
  rintro e W' ⟨rfl, hb⟩
  exact ⟨_, rfl, law_post (P := Try.prog) rfl laidOut (by rw [Try.params3]; intro t ht; simp at ht; rcases ht with rfl | rfl | rfl <;> exact ⟨by kernel_rfl, of_decide_eq_true (by kernel_rfl)⟩)
    (fun ds h => by rw [Try.params3] at h; match ds, h with | [a, b, c], _ => exact ⟨rfl, rfl, rfl⟩) (by kernel_rfl) Try.underlying4 hW hb⟩

theorem match_holds : Rows.JournalMatchesReferenceSaid :=
  OpenClaim.holds_of_wide 3 Try.f3 rfl rfl rfl rfl rfl rfl rfl ⟨rfl, rfl, rfl, rfl, rfl⟩ rfl rfl rfl rfl rfl (by kernel_rfl) Try.func3 (by kernel_rfl)
    (of_decide_eq_true (by kernel_rfl)) (by unfold Func.isWrapper; first | (rw [if_pos (by decide +kernel)]; kernel_rfl) | (rw [if_neg (by decide +kernel)]; exact ⟨rfl, rfl⟩))
    (fun os started H enc _ => match_lifted os started H enc)
#print axioms match_holds

end Go.Proofs.Ytekgcedbejafeaa
