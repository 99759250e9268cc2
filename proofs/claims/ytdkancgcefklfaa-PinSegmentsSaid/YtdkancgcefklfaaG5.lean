/-
  Typed functions that compute what the functions 18, 20 of the program compute, and that they do.
-/
import Derived.Test.YtdkancgcefklfaaK6
namespace Go.Proofs.Ytdkancgcefklfaa
open Go.RowKit

def pin_Insert (x0 : List Pin) (x1 : Int) : Option (List Pin) :=
  (pin_without x0 (fun a0 => pin_Insert_1 a0 x1)).bind fun w8_1 =>
  (pin_moved w8_1.2 w8_1.1 x1 1).bind fun w10_2 =>
  chk (0 ≤ w10_2.1 ∧ w10_2.1 ≤ (w10_2.2.length : Int)) <|
  some (sub w10_2.2 0 w10_2.1)
theorem link_pin_Insert {x0 : List Pin} {x1 : Int} {r : List Pin} (h : pin_Insert x0 x1 = some r) : PCalls Try.prog 18 [.sl 3 (mp cPin x0) .lent, .v (.int .i64 x1)] (.sl 3 (mp cPin r) .none) := by
  unfold pin_Insert at h
  refine pcalls is18 na18 ?_
  try simp -implicitDefEqProofs
  refine go_seq ?_
  refine go_reg ?_
  try simp -implicitDefEqProofs
  repeat (with_reducible refine And.intro (by omega) ?_)
  refine go_seq ?_
  refine go_fork ?_
  try simp -implicitDefEqProofs
  repeat (with_reducible refine And.intro (by omega) ?_)
  refine runR_litF (by rfl) ?_
  try simp -implicitDefEqProofs
  repeat (with_reducible refine And.intro (by omega) ?_)
  refine ⟨?_, ?_⟩
  · skip
    obtain ⟨w8_1, hc, h⟩ := bind_elim h
    try simp -implicitDefEqProofs
    repeat (with_reducible refine And.intro (by omega) ?_)
    refine runR_callm0 (c' := cPin) w8_1.2 (link_pin_without (f1 := 41) (cs1 := [.pt [.v (.int .i64 x1)]]) (by kernel_rfl) ⟨by simp, by simp, by simp, by simp, by simp⟩ (fun h => link_pin_Insert_1 h) hc) (by simp) ?_
    obtain ⟨w10_2, hc, h⟩ := bind_elim h
    try simp -implicitDefEqProofs
    repeat (with_reducible refine And.intro (by omega) ?_)
    refine runR_callm1 (b := 1) (c := cPin) (c' := cPin) w8_1.2 w10_2.2 (link_pin_moved hc) (by rfl) (by simp) ?_
    try simp -implicitDefEqProofs
    repeat (with_reducible refine And.intro (by omega) ?_)
    refine ⟨_, WkN.refl _ _, ?_⟩
    try simp -implicitDefEqProofs
    obtain ⟨⟨c_4, c_5⟩, h⟩ := chk_elim h
    obtain rfl := Option.some.inj h
    refine go_ret ?_
    simp -implicitDefEqProofs [c_4, c_5]
  · skip
    obtain ⟨w8_1, hc, h⟩ := bind_elim h
    try simp -implicitDefEqProofs
    repeat (with_reducible refine And.intro (by omega) ?_)
    refine runR_callm0 (c' := cPin) w8_1.2 (link_pin_without (f1 := 41) (cs1 := [.pt [.v (.int .i64 x1)]]) (by kernel_rfl) ⟨by simp, by simp, by simp, by simp, by simp⟩ (fun h => link_pin_Insert_1 h) hc) (by simp) ?_
    obtain ⟨w10_2, hc, h⟩ := bind_elim h
    try simp -implicitDefEqProofs
    repeat (with_reducible refine And.intro (by omega) ?_)
    refine runR_callm1 (b := 1) (c := cPin) (c' := cPin) w8_1.2 w10_2.2 (link_pin_moved hc) (by rfl) (by simp) ?_
    try simp -implicitDefEqProofs
    repeat (with_reducible refine And.intro (by omega) ?_)
    refine ⟨_, WkN.refl _ _, ?_⟩
    try simp -implicitDefEqProofs
    obtain ⟨⟨c_4, c_5⟩, h⟩ := chk_elim h
    obtain rfl := Option.some.inj h
    refine go_ret ?_
    simp -implicitDefEqProofs [c_4, c_5]
def pin_Delete (x0 : List Pin) (x1 : Int) : Option (List Pin) :=
  (pin_without x0 (fun a0 => pin_Delete_1 a0 x1)).bind fun w8_1 =>
  chk (-9223372036854775808 ≤ x1 + 1 ∧ x1 + 1 ≤ 9223372036854775807) <|
  (pin_moved w8_1.2 w8_1.1 (x1 + 1) (-1)).bind fun w11_5 =>
  chk (0 ≤ w11_5.1 ∧ w11_5.1 ≤ (w11_5.2.length : Int)) <|
  some (sub w11_5.2 0 w11_5.1)
theorem link_pin_Delete {x0 : List Pin} {x1 : Int} {r : List Pin} (h : pin_Delete x0 x1 = some r) : PCalls Try.prog 20 [.sl 3 (mp cPin x0) .lent, .v (.int .i64 x1)] (.sl 3 (mp cPin r) .none) := by
  unfold pin_Delete at h
  refine pcalls is20 na20 ?_
  try simp -implicitDefEqProofs
  refine go_seq ?_
  refine go_reg ?_
  try simp -implicitDefEqProofs
  repeat (with_reducible refine And.intro (by omega) ?_)
  refine go_seq ?_
  refine go_fork ?_
  try simp -implicitDefEqProofs
  repeat (with_reducible refine And.intro (by omega) ?_)
  refine runR_litF (by rfl) ?_
  try simp -implicitDefEqProofs
  repeat (with_reducible refine And.intro (by omega) ?_)
  refine ⟨?_, ?_⟩
  · skip
    obtain ⟨w8_1, hc, h⟩ := bind_elim h
    try simp -implicitDefEqProofs
    repeat (with_reducible refine And.intro (by omega) ?_)
    refine runR_callm0 (c' := cPin) w8_1.2 (link_pin_without (f1 := 42) (cs1 := [.pt [.v (.int .i64 x1)]]) (by kernel_rfl) ⟨by simp, by simp, by simp, by simp, by simp⟩ (fun h => link_pin_Delete_1 h) hc) (by simp) ?_
    obtain ⟨⟨c_3, c_4⟩, h⟩ := chk_elim h
    obtain ⟨w11_5, hc, h⟩ := bind_elim h
    try simp -implicitDefEqProofs [c_3, c_4]
    repeat (with_reducible refine And.intro (by omega) ?_)
    refine runR_callm1 (b := 1) (c := cPin) (c' := cPin) w8_1.2 w11_5.2 (link_pin_moved hc) (by rfl) (by simp) ?_
    try simp -implicitDefEqProofs
    repeat (with_reducible refine And.intro (by omega) ?_)
    refine ⟨_, WkN.refl _ _, ?_⟩
    try simp -implicitDefEqProofs
    obtain ⟨⟨c_7, c_8⟩, h⟩ := chk_elim h
    obtain rfl := Option.some.inj h
    refine go_ret ?_
    simp -implicitDefEqProofs [c_7, c_8]
  · skip
    obtain ⟨w8_1, hc, h⟩ := bind_elim h
    try simp -implicitDefEqProofs
    repeat (with_reducible refine And.intro (by omega) ?_)
    refine runR_callm0 (c' := cPin) w8_1.2 (link_pin_without (f1 := 42) (cs1 := [.pt [.v (.int .i64 x1)]]) (by kernel_rfl) ⟨by simp, by simp, by simp, by simp, by simp⟩ (fun h => link_pin_Delete_1 h) hc) (by simp) ?_
    obtain ⟨⟨c_3, c_4⟩, h⟩ := chk_elim h
    obtain ⟨w11_5, hc, h⟩ := bind_elim h
    try simp -implicitDefEqProofs [c_3, c_4]
    repeat (with_reducible refine And.intro (by omega) ?_)
    refine runR_callm1 (b := 1) (c := cPin) (c' := cPin) w8_1.2 w11_5.2 (link_pin_moved hc) (by rfl) (by simp) ?_
    try simp -implicitDefEqProofs
    repeat (with_reducible refine And.intro (by omega) ?_)
    refine ⟨_, WkN.refl _ _, ?_⟩
    try simp -implicitDefEqProofs
    obtain ⟨⟨c_7, c_8⟩, h⟩ := chk_elim h
    obtain rfl := Option.some.inj h
    refine go_ret ?_
    simp -implicitDefEqProofs [c_7, c_8]
end Go.Proofs.Ytdkancgcefklfaa
