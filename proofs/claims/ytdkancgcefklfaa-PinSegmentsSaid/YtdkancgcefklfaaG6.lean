/-
  Typed functions that compute what the functions 12 of the program compute, and that they do.
-/
import Derived.Test.YtdkancgcefklfaaK7
namespace Go.Proofs.Ytdkancgcefklfaa
open Go.RowKit

def pin_Put (x0 : List Pin) (x1 : Pin) (x2 : Int) : Option (List Pin × Int) :=
  (
    (
      (pin_Valid x0 x2).bind fun w13_3 =>
      if w13_3 = true then (
        (pin_Valid [x1] x2).bind fun w19_5 =>
        some (!w19_5)
      ) else (
        some true
      )
    : Option (Bool))
  ).bind fun v21_1 =>
  if v21_1 = true then (
    some ([], 180)
  ) else (
    (pin_without x0 (fun a0 => pin_Put_1 a0 x1)).bind fun w25_7 =>
    chk (0 ≤ w25_7.1 ∧ w25_7.1 ≤ (w25_7.2.length : Int)) <|
    (slices_BinarySearchFunc (sub w25_7.2 0 w25_7.1) x1 pin_Put_2).bind fun w29_11 =>
    chk (0 ≤ w29_11.1 ∧ w29_11.1 ≤ w25_7.1 ∧ w25_7.1 ≤ (w25_7.2.length : Int) ∧ (w25_7.1 + 1) * 24 ≤ 140737488355328) <|
    chk (0 ≤ w25_7.1 + 1 ∧ w25_7.1 + 1 ≤ ((insL w25_7.2 w25_7.1 w29_11.1 x1).length : Int)) <|
    some (sub (insL w25_7.2 w25_7.1 w29_11.1 x1) 0 (w25_7.1 + 1), 0)
  )
theorem link_pin_Put {x0 : List Pin} {x1 : Pin} {x2 : Int} {r : List Pin × Int} (h : pin_Put x0 x1 x2 = some r) : PCalls Try.prog 12 [.sl 3 (mp cPin x0) .lent, .agg (cPin x1), .v (.int .i64 x2)] (.tup [.sl 3 (mp cPin r.1) .none, .v (.int .i64 r.2)]) := by
  unfold pin_Put at h
  refine pcalls is12 na12 ?_
  try simp -implicitDefEqProofs
  refine go_seq ?_
  refine go_reg ?_
  try simp -implicitDefEqProofs
  repeat (with_reducible refine And.intro (by omega) ?_)
  refine go_seq ?_
  refine go_seq ?_
  refine go_reg ?_
  refine run_join h [⟨.a, .b, .d⟩, ⟨.a, .b, .e⟩, ⟨.a, .b, .f⟩, ⟨.a, .b, .g⟩, ⟨.a, .b, .h⟩, ⟨.a, .c, .a⟩, ⟨.a, .c, .b⟩, ⟨.a, .c, .c⟩, ⟨.a, .c, .d⟩, ⟨.a, .c, .e⟩, ⟨.a, .c, .f⟩] (fun v21_1 => [(⟨.a, .c, .f⟩, .v (.bool v21_1))]) (fun v21_1 => [[.v (.int .i64 x1.From), .v (.int .i64 x1.To), .v (.int .i64 x1.Word)]]) (fun v21_1 => []) (by repeat (first | exact soft_c | refine soft_b ?_)) ?_ ?_
  · rintro v21_1 h
    try dsimp only at h
    try simp -implicitDefEqProofs
    refine go_cond ?_
    try simp -implicitDefEqProofs
    repeat (with_reducible refine And.intro (by omega) ?_)
    first | with_reducible refine selP_ite h (by first | exact Iff.rfl | omega | (simp; done) | (simp [Pin.eqi]; done) | fail) ?_ ?_ | with_reducible refine selP_ite2 h (by first | exact Iff.rfl | omega | (simp; done) | (simp [Pin.eqi]; done) | fail) ?_ ?_ | with_reducible refine selP_ite h (by first | (simp only [Pin.eqi]; grind) | grind | fail) ?_ ?_ | with_reducible refine selP_ite2 h (by first | (simp only [Pin.eqi]; grind) | grind | fail) ?_ ?_
    · intro c_6 p_6 h
      refine go_seq ?_
      refine go_reg ?_
      try simp -implicitDefEqProofs [c_6]
      repeat (with_reducible refine And.intro (by omega) ?_)
      obtain rfl := Option.some.inj h
      refine go_ret ?_
      simp -implicitDefEqProofs
    · intro c_6 p_6 h
      have q_6 := eq_false_of_ne_true c_6
      refine go_skip ?_
      refine go_seq ?_
      refine go_reg ?_
      try simp -implicitDefEqProofs [q_6]
      repeat (with_reducible refine And.intro (by omega) ?_)
      refine runR_litF (by rfl) ?_
      obtain ⟨w25_7, hc, h⟩ := bind_elim h
      try simp -implicitDefEqProofs
      repeat (with_reducible refine And.intro (by omega) ?_)
      refine runR_callm0 (c' := cPin) w25_7.2 (link_pin_without (f1 := 30) (cs1 := [.pt [.v (.int .i64 x1.From), .v (.int .i64 x1.To), .v (.int .i64 x1.Word)]]) (by kernel_rfl) ⟨by simp, by simp, by simp, by simp, by simp⟩ (fun h => link_pin_Put_1 h) hc) (by simp) ?_
      try simp -implicitDefEqProofs
      repeat (with_reducible refine And.intro (by omega) ?_)
      refine go_seq ?_
      refine go_reg ?_
      obtain ⟨⟨c_9, c_10⟩, h⟩ := chk_elim h
      obtain ⟨w29_11, hc, h⟩ := bind_elim h
      try simp -implicitDefEqProofs [c_9, c_10]
      repeat (with_reducible refine And.intro (by omega) ?_)
      refine runC_t (link_slices_BinarySearchFunc (f2 := 33) (cs2 := []) (by kernel_rfl) ⟨by simp, by simp, by simp, by simp, by simp⟩ (fun h => link_pin_Put_2 h) hc) (by simp) ?_
      try simp -implicitDefEqProofs
      repeat (with_reducible refine And.intro (by omega) ?_)
      refine go_seq ?_
      refine go_reg ?_
      obtain ⟨⟨c_13, c_14, c_15, c_16⟩, h⟩ := chk_elim h
      try simp -implicitDefEqProofs
      repeat (with_reducible refine And.intro (by omega) ?_)
      refine runR_callmU (b := 1) (c := cPin) w25_7.2 (insL w25_7.2 w25_7.1 w29_11.1 x1) (pcalls_ins (o := .lent) ins35 c_13 c_14 c_15 c_16) (by rfl) (by omega) (by simp) ?_
      try simp -implicitDefEqProofs
      repeat (with_reducible refine And.intro (by omega) ?_)
      obtain ⟨⟨c_18, c_19⟩, h⟩ := chk_elim h
      obtain rfl := Option.some.inj h
      refine go_ret ?_
      simp -implicitDefEqProofs [c_18, c_19]
  · intro v E h hJ
    obtain ⟨w13_3, hc, h⟩ := bind_elim h
    try simp -implicitDefEqProofs
    repeat (with_reducible refine And.intro (by omega) ?_)
    refine runC_t (link_pin_Valid hc) (by simp) ?_
    try simp -implicitDefEqProofs
    repeat (with_reducible refine And.intro (by omega) ?_)
    first | with_reducible refine selP_ite h (by first | exact Iff.rfl | omega | (simp; done) | (simp [Pin.eqi]; done) | fail) ?_ ?_ | with_reducible refine selP_ite2 h (by first | exact Iff.rfl | omega | (simp; done) | (simp [Pin.eqi]; done) | fail) ?_ ?_ | with_reducible refine selP_ite h (by first | (simp only [Pin.eqi]; grind) | grind | fail) ?_ ?_ | with_reducible refine selP_ite2 h (by first | (simp only [Pin.eqi]; grind) | grind | fail) ?_ ?_
    · intro c_4 p_4 h
      obtain ⟨w19_5, hc, h⟩ := bind_elim h
      try simp -implicitDefEqProofs [c_4]
      repeat (with_reducible refine And.intro (by omega) ?_)
      refine runC_t (link_pin_Valid hc) (by simp) ?_
      try simp -implicitDefEqProofs
      repeat (with_reducible refine And.intro (by omega) ?_)
      refine go_l ?_
      obtain rfl := Option.some.inj h
      exact hJ _ (wkN_of 0 [] (by simp) (by simp) (by simp) (by simp) (by simp))
    · intro c_4 p_4 h
      have q_4 := eq_false_of_ne_true c_4
      try simp -implicitDefEqProofs [q_4]
      repeat (with_reducible refine And.intro (by omega) ?_)
      refine go_l ?_
      obtain rfl := Option.some.inj h
      exact hJ _ (wkN_of 0 [] (by simp) (by simp) (by simp) (by simp) (by simp))
end Go.Proofs.Ytdkancgcefklfaa
