/-
  Typed functions that compute what the functions 29 of the program compute, and that they do.
-/
import Derived.Test.YtdkancgcefklfaaK5
namespace Go.Proofs.Ytdkancgcefklfaa
open Go.RowKit

def pin_without_L1 (x1 : Pin → Option Bool) : (Int × Int × List Pin) → Option ((Int × Int × List Pin) ⊕ ((Int × List Pin))) := fun (n5__12, v16__13, l0_14) =>
  if v16__13 < 1 then (
    chk (v16__13 = 0) <|
    (slices_DeleteFunc l0_14 n5__12 x1).bind fun w22_19 =>
    chk (-9223372036854775808 ≤ v16__13 + 1 ∧ v16__13 + 1 ≤ 9223372036854775807) <|
    some (.inl (w22_19.1, v16__13 + 1, w22_19.2))
  ) else (
    some (.inr (n5__12, l0_14))
  )
def pin_without (x0 : List Pin) (x1 : Pin → Option Bool) : Option (Int × List Pin) :=
  chk (0 ≤ (x0.length : Int) ∧ (x0.length : Int) ≤ (x0.length : Int) ∧ (x0.length : Int) * 24 ≤ 140737488355328 ∧ (x0.length : Int) ≤ 140737488355328) <|
  (some (List.replicate ((x0.length : Int)).toNat (⟨0, 0, 0⟩ : Pin))).bind fun l0_6 =>
  chk (0 ≤ (x0.length : Int) ∧ (x0.length : Int) ≤ (l0_6.length : Int)) <|
  (some (over l0_6 0 (x0.take ((x0.length : Int)).toNat))).bind fun l0_10 =>
  (loop (pin_without_L1 x1) ((x0.length : Int), 0, l0_10)).bind fun (n5_15, l0_16) =>
  some (n5_15, l0_16)
theorem link_pin_without {x0 : List Pin} {x1 : Pin → Option Bool} {f1 : FuncId} {cs1 : List PV} (ok1 : callOk Try.prog f1 = true) (cp1 : CapOk cs1) (hx1 : ∀ {a0 : Pin} {r : Bool}, x1 a0 = some r → PCalls Try.prog f1 ([.agg (cPin a0)] ++ cs1) (.v (.bool r))) {r : Int × List Pin} (h : pin_without x0 x1 = some r) : PCallsB Try.prog 29 [] [] [.sl 3 (mp cPin x0) .lent, .fs f1 cs1] (sbv 0 3 0 r.1 none) [fl cPin r.2] := by
  unfold pin_without at h
  refine pcallsN [sbv 0 3 0 r.1 none] is29 rfl na29 ?_
  try simp -implicitDefEqProofs
  have sc1 := cp1.sc
  have mc1 := cp1.mc
  have rf1 := cp1.rf
  have rw1 := cp1.rw
  have oc1 := cp1.oc
  refine go_seq ?_
  refine go_reg ?_
  try simp -implicitDefEqProofs
  repeat (with_reducible refine And.intro (by omega) ?_)
  refine go_seq ?_
  refine go_reg ?_
  obtain ⟨⟨c_2, c_3, c_4, c_5⟩, h⟩ := chk_elim h
  obtain ⟨l0_6, hl0_6, h⟩ := bind_elim h
  have hl0_6 := Option.some.inj hl0_6
  try simp -implicitDefEqProofs
  repeat (with_reducible refine And.intro (by omega) ?_)
  refine runR_mksT (c := cPin) (⟨0, 0, 0⟩ : Pin) (k := .i64) (k' := .i64) (x0.length : Int) (x0.length : Int) (by first | rfl | simp) (by first | rfl | simp) (by rfl) c_2 c_3 c_4 c_5 ?_
  rw [hl0_6]
  try simp -implicitDefEqProofs
  repeat (with_reducible refine And.intro (by omega) ?_)
  refine go_seq ?_
  refine go_reg ?_
  obtain ⟨⟨c_8, c_9⟩, h⟩ := chk_elim h
  obtain ⟨l0_10, hl0_10, h⟩ := bind_elim h
  have hl0_10 := Option.some.inj hl0_10
  try simp -implicitDefEqProofs
  repeat (with_reducible refine And.intro (by omega) ?_)
  refine runR_cpyT (c := cPin) l0_6 x0 (by rfl) (elems_mp cPin _ _ x0 _) (by rfl) (by omega) c_8 (by omega) ?_
  rw [hl0_10]
  try simp -implicitDefEqProofs
  repeat (with_reducible refine And.intro (by omega) ?_)
  refine go_seq ?_
  refine go_seq ?_
  refine go_reg ?_
  try simp -implicitDefEqProofs
  repeat (with_reducible refine And.intro (by omega) ?_)
  refine go_block ?_
  obtain ⟨rr_23, h, hn_11⟩ := bind_elim h
  refine go_loop (ε := Int × List Pin) h 0 (fun e => e) (fun (n5__12, v16__13, l0_14) => [(⟨.a, .a, .f⟩, sbv 0 3 0 n5__12 none), (⟨.a, .c, .a⟩, .v (.int .i64 v16__13))]) (fun (n5__12, v16__13, l0_14) => [fl cPin l0_14]) (fun (n5__12, v16__13, l0_14) => []) (fun (n5_15, l0_16) => [(⟨.a, .a, .f⟩, sbv 0 3 0 n5_15 none)]) (fun (n5_15, l0_16) => [fl cPin l0_16]) (fun (n5_15, l0_16) => []) (wkN_of 0 [] (by simp [oc1]) (by simp) (by simp) (by simp) (by simp)) ?_ ?_
  · rintro ⟨n5_15, l0_16⟩ hq
    try simp -implicitDefEqProofs
    have h := hn_11
    rw [hq] at h
    try dsimp only at h
    refine go_seq ?_
    refine go_reg ?_
    try simp -implicitDefEqProofs
    repeat (with_reducible refine And.intro (by omega) ?_)
    obtain rfl := Option.some.inj h
    refine go_ret ?_
    refine ⟨0, ksOk_new (by simp), by simp, by simp, by simp⟩
  · rintro ⟨n5__12, v16__13, l0_14⟩ o B' E' h hB hE hR
    simp only [pin_without_L1] at h
    simp -implicitDefEqProofs
    refine go_seq ?_
    refine go_reg ?_
    try simp -implicitDefEqProofs
    repeat (with_reducible refine And.intro (by omega) ?_)
    refine go_seq ?_
    refine go_cond ?_
    try simp -implicitDefEqProofs
    repeat (with_reducible refine And.intro (by omega) ?_)
    first | with_reducible refine selP_ite h (by first | exact Iff.rfl | omega | (simp; done) | (simp [Pin.eqi]; done) | fail) ?_ ?_ | with_reducible refine selP_ite2 h (by first | exact Iff.rfl | omega | (simp; done) | (simp [Pin.eqi]; done) | fail) ?_ ?_ | with_reducible refine selP_ite h (by first | (simp only [Pin.eqi]; grind) | grind | fail) ?_ ?_ | with_reducible refine selP_ite2 h (by first | (simp only [Pin.eqi]; grind) | grind | fail) ?_ ?_
    · intro c_17 p_17 h
      refine go_skip ?_
      refine go_seq ?_
      refine go_block ?_
      refine go_seq ?_
      refine go_reg ?_
      obtain ⟨c_18, h⟩ := chk_elim h
      try simp -implicitDefEqProofs [c_18]
      repeat (with_reducible refine And.intro (by omega) ?_)
      refine go_reg ?_
      obtain ⟨w22_19, hc, h⟩ := bind_elim h
      try simp -implicitDefEqProofs
      repeat (with_reducible refine And.intro (by omega) ?_)
      refine runR_callm1 (b := 0) (c := cPin) (c' := cPin) l0_14 w22_19.2 (link_slices_DeleteFunc (f1 := f1) (cs1 := cs1) ok1 cp1 hx1 hc) (by rfl) (by simp [rw1, mc1]) ?_
      try simp -implicitDefEqProofs
      repeat (with_reducible refine And.intro (by omega) ?_)
      refine go_b ?_
      refine go_reg ?_
      obtain ⟨⟨c_21, c_22⟩, h⟩ := chk_elim h
      try simp -implicitDefEqProofs
      repeat (with_reducible refine And.intro (by omega) ?_)
      refine go_l ?_
      exact hB _ _ (Option.some.inj h).symm (wkN_of 0 [] (by simp [oc1, c_18]) (by simp [c_18]) (by simp) (by simp) (by simp))
    · intro c_17 p_17 h
      refine go_exit ?_
      simp -implicitDefEqProofs
      exact hE _ _ (Option.some.inj h).symm (wkN_of 0 [] (by simp [oc1, c_17]) (by simp) (by simp) (by simp) (by simp))
end Go.Proofs.Ytdkancgcefklfaa
