/-
  PinSegments holds, for every input of the law; its row.
-/
import Derived.Test.YtdkancgcefklfaaT3
import Derived.Test.YtdkancgcefklfaaR0
namespace Go.Proofs.Ytdkancgcefklfaa
open Go.RowKit Go.WideShapes Go.ChangeShapes Go.ChangeAt

theorem rdtsegments_5 : Rds Try.prog 5 (fun b : UInt8 => [PV.v (.int .u8 (b.toNat : Int))]) (fun _x : UInt8 => True) :=
  rds_u8 (by kernel_rfl)
theorem rdtsegments_42 : Rds Try.prog 42 cArr3U8 (fun _x : Arr3U8 => (True) ∧ (True) ∧ (True)) :=
  rds_map (rds_row (n := 3) (c := (fun b : UInt8 => [PV.v (.int .u8 (b.toNat : Int))])) (_hc := ⟨fun _ => rfl⟩) (by kernel_rfl) rdtsegments_5 (by kernel_rfl) (by kernel_rfl)) fun l ⟨hx, hl⟩ => match l, hl, hx with | [y0, y1, y2], _, hx => ⟨⟨y0, y1, y2⟩, rfl, hx y0 (by simp), hx y1 (by simp), hx y2 (by simp)⟩
theorem rdtsegments_22t : Rds Try.prog 22 (fun l : List Arr3U8 => [PV.sl 3 (mp cArr3U8 l) .lent]) (fun x : List Arr3U8 => (∀ z ∈ x, (True) ∧ (True) ∧ (True)) ∧ x.length ≤ maxLen) :=
  rds_slice (c := cArr3U8) (hc := ⟨fun _ => rfl⟩) .lent (.inr rfl) (by kernel_rfl) rdtsegments_42 (by kernel_rfl) (by decide)
theorem rdtsegments_54t : Rds Try.prog 54 cArr2U8 (fun _x : Arr2U8 => (True) ∧ (True)) :=
  rds_map (rds_row (n := 2) (c := (fun b : UInt8 => [PV.v (.int .u8 (b.toNat : Int))])) (_hc := ⟨fun _ => rfl⟩) (by kernel_rfl) rdtsegments_5 (by kernel_rfl) (by kernel_rfl)) fun l ⟨hx, hl⟩ => match l, hl, hx with | [y0, y1], _, hx => ⟨⟨y0, y1⟩, rfl, hx y0 (by simp), hx y1 (by simp)⟩
theorem segments_calls {H : Type} {enc : TypeId × Value → H} {W : World} {base : Nat} {args : Array Value} {ds : List (DataW H)} {p : List MemPlace}
    (hval : ∀ (j : Nat) t v, Try.f8.params[j]? = some t → args[j]? = some v → Value.okWide Try.prog W .any base t v)
    (hA : DataW.TrodAll enc Try.prog W 0 (fun _ => true) true Try.f8.params.toList args.toList ds p) :
    Calls Try.prog 8 args W fun e W' => e = .returned (.bool true) ∧ Below W.heap.size W W' := by
  rw [Try.params8] at hA hval
  obtain ⟨v0, vs0, d0, ds0, q0, q0e, g0, hA⟩ := open_cons hA
  obtain ⟨v1, vs1, d1, ds1, q1, q1e, g1, hA⟩ := open_cons hA
  have qz := open_nil hA
  obtain rfl : args = #[v0, v1] := by apply Array.ext'; rw [q0e, q1e, qz]
  obtain ⟨A0, n0, c0, rfl⟩ := okWide_slice (e := 42) (by kernel_rfl) (hval 0 22 v0 rfl rfl)
  obtain ⟨x0, w0, r0⟩ := arg_one rdtsegments_22t g0 rfl
  obtain ⟨x1, w1, r1⟩ := arg_agg rdtsegments_54t (by kernel_rfl) (hval 1 54 v1 rfl rfl) g1
  exact calls_of (link_law18_PinSegments (segments1 x0 x1)) (RelL.cons w0 (RelL.cons w1 (RelL.nil _)))

theorem segments_lifted (os : Os) (started : os.Started) (H : Type) (enc : TypeId × Value → H) :
    ReturnsInHanded {} Try.checked os 8 .any (Rows.pinSegmentsSpec.pre6 enc Try.prog Try.f8 Rows.pinSegmentsRow.domain false) (Rows.pinSegmentsSpec.post enc Try.prog Try.f8 false true false false) := by
  refine returnsInHanded_of_change (C := Try.checked) own0 started (by kernel_rfl) Try.func8
    (ChangeSpec.witness6 (enc := enc) (C := Try.checked) false ⟨#[], #[.slice none 0 0, .agg #[.int .u8 0, .int .u8 0]], []⟩ 8 (by kernel_rfl) (by kernel_rfl) (by kernel_rfl) (by kernel_rfl)) ?_
  intro W base args ds gs before hval hW _ _
  obtain ⟨p, q, hA, _⟩ := id hW
  refine (segments_calls hval hA).mono ?_
  rintro e W' ⟨rfl, hb⟩
  exact ⟨_, rfl, law_post (P := Try.prog) rfl laidOut (by rw [Try.params8]; intro t ht; simp at ht; rcases ht with rfl | rfl <;> exact ⟨by kernel_rfl, of_decide_eq_true (by kernel_rfl)⟩)
    (fun ds h => by rw [Try.params8] at h; match ds, h with | [a, b], _ => exact ⟨rfl, rfl, rfl⟩) (by kernel_rfl) Try.underlying4 hW hb⟩

theorem segments_holds : Rows.PinSegmentsSaid :=
  OpenClaim.holds_of_wide 8 Try.f8 rfl rfl rfl rfl rfl rfl rfl ⟨rfl, rfl, rfl, rfl, rfl⟩ rfl rfl rfl rfl rfl (by kernel_rfl) Try.func8 (by kernel_rfl)
    (of_decide_eq_true (by kernel_rfl)) (by unfold Func.isWrapper; first | (rw [if_pos (by decide +kernel)]; kernel_rfl) | (rw [if_neg (by decide +kernel)]; exact ⟨rfl, rfl⟩))
    (fun os started H enc _ => segments_lifted os started H enc)
#print axioms segments_holds

end Go.Proofs.Ytdkancgcefklfaa
