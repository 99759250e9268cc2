/-
  Typed functions that compute what the functions 40, 43 of the program compute, and that they do.
-/
import Derived.Test.YtdkancgcefklfaaK4
namespace Go.Proofs.Ytdkancgcefklfaa
open Go.RowKit

def pin_moved_L1 (n0 : Int) (x1 : Int) (x2 : Int) : (Int × List Pin) → Option ((Int × List Pin) ⊕ ((List Pin))) := fun (v10__5, l0_6) =>
  if v10__5 < n0 then (
    chk (0 ≤ n0 ∧ n0 ≤ (l0_6.length : Int)) <|
    chk (0 ≤ v10__5 ∧ v10__5 < n0) <|
    (
      (
        if x1 ≤ (at' l0_6 v10__5).From then (
          chk (-9223372036854775808 ≤ ((at' l0_6 v10__5).From) + x2 ∧ ((at' l0_6 v10__5).From) + x2 ≤ 9223372036854775807) <|
          (some (put' l0_6 v10__5 (⟨((at' l0_6 v10__5).From) + x2, (at' l0_6 v10__5).To, (at' l0_6 v10__5).Word⟩ : Pin))).bind fun l0_22 =>
          chk (0 ≤ n0 ∧ n0 ≤ (l0_22.length : Int)) <|
          chk (-9223372036854775808 ≤ ((at' l0_22 v10__5).To) + x2 ∧ ((at' l0_22 v10__5).To) + x2 ≤ 9223372036854775807) <|
          (some (put' l0_22 v10__5 (⟨(at' l0_22 v10__5).From, ((at' l0_22 v10__5).To) + x2, (at' l0_22 v10__5).Word⟩ : Pin))).bind fun l0_30 =>
          some l0_30
        ) else (
          some l0_6
        )
      : Option (List Pin))
    ).bind fun l0_16 =>
    chk (-9223372036854775808 ≤ v10__5 + 1 ∧ v10__5 + 1 ≤ 9223372036854775807) <|
    some (.inl (v10__5 + 1, l0_16))
  ) else (
    some (.inr l0_6)
  )
def pin_moved (x0 : List Pin) (n0 : Int) (x1 : Int) (x2 : Int) : Option (Int × List Pin) :=
  chk (0 ≤ n0 ∧ n0 ≤ (x0.length : Int)) <|
  (loop (pin_moved_L1 n0 x1 x2) (0, x0)).bind fun l0_7 =>
  some (n0, l0_7)
theorem link_pin_moved {x0 : List Pin} {n0 : Int} {x1 : Int} {x2 : Int} {r : Int × List Pin} (h : pin_moved x0 n0 x1 x2 = some r) : PCallsB Try.prog 40 [] [fl cPin x0] [sbv 0 3 0 n0 none, .v (.int .i64 x1), .v (.int .i64 x2)] (sbv 0 3 0 r.1 none) [fl cPin r.2] := by
  unfold pin_moved at h
  refine pcallsB [0] [sbv 0 3 0 r.1 none] is40 rfl rfl na40 ?_
  try simp -implicitDefEqProofs
  refine go_seq ?_
  refine go_reg ?_
  try simp -implicitDefEqProofs
  repeat (with_reducible refine And.intro (by omega) ?_)
  refine go_seq ?_
  refine go_seq ?_
  refine go_reg ?_
  obtain ⟨⟨c_2, c_3⟩, h⟩ := chk_elim h
  try simp -implicitDefEqProofs [c_2]
  repeat (with_reducible refine And.intro (by omega) ?_)
  refine go_block ?_
  obtain ⟨rr_35, h, hn_4⟩ := bind_elim h
  refine go_loop (ε := List Pin) h 0 (fun e => e) (fun (v10__5, l0_6) => [(⟨.a, .b, .c⟩, .v (.int .i64 v10__5))]) (fun (v10__5, l0_6) => [fl cPin l0_6]) (fun (v10__5, l0_6) => []) (fun l0_7 => []) (fun l0_7 => [fl cPin l0_7]) (fun l0_7 => []) (wkN_of 0 [] (by simp) (by simp) (by simp) (by simp) (by simp)) ?_ ?_
  · rintro l0_7 hq
    try simp -implicitDefEqProofs
    have h := hn_4
    rw [hq] at h
    try dsimp only at h
    refine go_seq ?_
    refine go_reg ?_
    try simp -implicitDefEqProofs
    repeat (with_reducible refine And.intro (by omega) ?_)
    obtain rfl := Option.some.inj h
    refine go_ret ?_
    refine ⟨ksOk_one (by simp), by simp, by simp, by simp⟩
  · rintro ⟨v10__5, l0_6⟩ o B' E' h hB hE hR
    simp only [pin_moved_L1] at h
    simp -implicitDefEqProofs
    refine go_seq ?_
    refine go_reg ?_
    try simp -implicitDefEqProofs
    repeat (with_reducible refine And.intro (by omega) ?_)
    refine go_seq ?_
    refine go_cond ?_
    try simp -implicitDefEqProofs
    repeat (with_reducible refine And.intro (by omega) ?_)
    first | with_reducible refine selP_ite h (by first | exact Iff.rfl | omega | (simp; done) | (simp [Pin.eqi]; done) | fail) ?_ ?_ | with_reducible refine selP_ite2 h (by first | exact Iff.rfl | omega | (simp; done) | (simp [Pin.eqi]; done) | fail) ?_ ?_ | with_reducible refine selP_ite h (by first | (simp only [Pin.eqi]; grind) | grind | fail) ?_ ?_ | with_reducible refine selP_ite2 h (by first | (simp only [Pin.eqi]; grind) | grind | fail) ?_ ?_
    · intro c_8 p_8 h
      refine go_skip ?_
      refine go_seq ?_
      refine go_block ?_
      refine go_seq ?_
      refine go_reg ?_
      try simp -implicitDefEqProofs [c_8]
      repeat (with_reducible refine And.intro (by omega) ?_)
      refine go_seq ?_
      refine go_reg ?_
      obtain ⟨⟨c_10, c_11⟩, h⟩ := chk_elim h
      obtain ⟨⟨c_13, c_14⟩, h⟩ := chk_elim h
      have k_15 : nat v10__5 < l0_6.length := nat_lt (by omega) (by omega)
      try simp -implicitDefEqProofs [c_8, c_10, c_13, k_15]
      repeat (with_reducible refine And.intro (by omega) ?_)
      refine go_join h [⟨.a, .c, .e⟩, ⟨.a, .c, .f⟩, ⟨.a, .c, .g⟩, ⟨.a, .c, .h⟩, ⟨.a, .d, .a⟩, ⟨.a, .d, .b⟩, ⟨.a, .d, .c⟩, ⟨.a, .d, .d⟩, ⟨.a, .d, .e⟩, ⟨.a, .d, .f⟩, ⟨.a, .d, .g⟩, ⟨.a, .d, .h⟩, ⟨.a, .e, .a⟩, ⟨.a, .e, .b⟩, ⟨.a, .e, .c⟩, ⟨.a, .e, .d⟩, ⟨.a, .e, .e⟩, ⟨.a, .e, .f⟩] (fun l0_16 => []) (fun l0_16 => [fl cPin l0_16]) (fun l0_16 => []) (by repeat (first | exact soft_c | refine soft_b ?_)) ?_ ?_
      · rintro l0_16 h
        try dsimp only at h
        try simp -implicitDefEqProofs
        refine go_b ?_
        refine go_reg ?_
        obtain ⟨⟨c_33, c_34⟩, h⟩ := chk_elim h
        try simp -implicitDefEqProofs [c_33, c_34]
        repeat (with_reducible refine And.intro (by omega) ?_)
        refine go_l ?_
        exact hB _ _ (Option.some.inj h).symm (wkN_of 0 [] (by simp) (by simp) (by simp) (by simp) (by simp))
      · intro v E h hJ
        refine go_cond ?_
        try simp -implicitDefEqProofs
        repeat (with_reducible refine And.intro (by omega) ?_)
        first | with_reducible refine selP_ite h (by first | exact Iff.rfl | omega | (simp; done) | (simp [Pin.eqi]; done) | fail) ?_ ?_ | with_reducible refine selP_ite2 h (by first | exact Iff.rfl | omega | (simp; done) | (simp [Pin.eqi]; done) | fail) ?_ ?_ | with_reducible refine selP_ite h (by first | (simp only [Pin.eqi]; grind) | grind | fail) ?_ ?_ | with_reducible refine selP_ite2 h (by first | (simp only [Pin.eqi]; grind) | grind | fail) ?_ ?_
        · intro c_18 p_18 h
          refine go_seq ?_
          refine go_reg ?_
          obtain ⟨⟨c_20, c_21⟩, h⟩ := chk_elim h
          obtain ⟨l0_22, hl0_22, h⟩ := bind_elim h
          have hl0_22 := Option.some.inj hl0_22
          try simp -implicitDefEqProofs [c_8, c_10, c_13, k_15, c_18, c_20, c_21]
          repeat (with_reducible refine And.intro (by omega) ?_)
          rw [setAt_pev (c := cPin) l0_6 0 v10__5 0 _ (⟨((at' l0_6 v10__5).From) + x2, (at' l0_6 v10__5).To, (at' l0_6 v10__5).Word⟩ : Pin) k_15 (by simp) (by simp [setAt])]
          rw [hl0_22]
          have k_23 : nat v10__5 < l0_22.length := by rw [← hl0_22]; simpa using k_15
          try simp -implicitDefEqProofs [c_8, p_8, c_10, c_11, c_13, c_14, k_15, c_18, p_18, c_20, c_21, k_23]
          repeat (with_reducible refine And.intro (by omega) ?_)
          refine go_reg ?_
          obtain ⟨⟨c_25, c_26⟩, h⟩ := chk_elim h
          obtain ⟨⟨c_28, c_29⟩, h⟩ := chk_elim h
          obtain ⟨l0_30, hl0_30, h⟩ := bind_elim h
          have hl0_30 := Option.some.inj hl0_30
          try simp -implicitDefEqProofs [c_8, c_10, c_13, k_23, c_28, c_29]
          repeat (with_reducible refine And.intro (by omega) ?_)
          rw [setAt_pev (c := cPin) l0_22 0 v10__5 1 _ (⟨(at' l0_22 v10__5).From, ((at' l0_22 v10__5).To) + x2, (at' l0_22 v10__5).Word⟩ : Pin) k_23 (by simp) (by simp [setAt])]
          rw [hl0_30]
          have k_31 : nat v10__5 < l0_30.length := by rw [← hl0_30]; simpa using k_23
          try simp -implicitDefEqProofs [c_8, p_8, c_10, c_11, c_13, c_14, k_15, c_18, p_18, c_20, c_21, k_23, c_25, c_26, c_28, c_29, k_31]
          repeat (with_reducible refine And.intro (by omega) ?_)
          refine go_l ?_
          obtain rfl := Option.some.inj h
          exact hJ _ (wkN_of 0 [] (by simp [c_18]) (by simp [c_18]) (by simp) (by simp) (by simp))
        · intro c_18 p_18 h
          refine go_skip ?_
          refine go_l ?_
          obtain rfl := Option.some.inj h
          exact hJ _ (wkN_of 0 [] (by simp [c_18]) (by simp [c_18]) (by simp) (by simp) (by simp))
    · intro c_8 p_8 h
      refine go_exit ?_
      simp -implicitDefEqProofs
      exact hE _ _ (Option.some.inj h).symm (wkN_of 0 [] (by simp [c_8]) (by simp) (by simp) (by simp) (by simp))
def slices_DeleteFunc_L1 (n0 : Int) (x1 : Pin → Option Bool) : (Int × Int × List Pin) → Option ((Int × Int × List Pin) ⊕ ((Int × List Pin))) := fun (v5__10, v6__11, l0_12) =>
  chk (0 ≤ n0 ∧ n0 ≤ (l0_12.length : Int)) <|
  if v6__11 < n0 then (
    chk (0 ≤ v6__11 ∧ v6__11 < n0) <|
    (x1 (at' l0_12 v6__11)).bind fun w28_23 =>
    (
      (
        if w28_23 = true then (
          some (v5__10, l0_12)
        ) else (
          chk (0 ≤ v5__10 ∧ v5__10 < n0) <|
          (some (put' l0_12 v5__10 (at' l0_12 v6__11))).bind fun l0_32 =>
          chk (-9223372036854775808 ≤ v5__10 + 1 ∧ v5__10 + 1 ≤ 9223372036854775807) <|
          some (v5__10 + 1, l0_32)
        )
      : Option (Int × List Pin))
    ).bind fun (v5_24, l0_25) =>
    chk (-9223372036854775808 ≤ v6__11 + 1 ∧ v6__11 + 1 ≤ 9223372036854775807) <|
    some (.inl (v5_24, v6__11 + 1, l0_25))
  ) else (
    some (.inr (v5__10, l0_12))
  )
def slices_DeleteFunc (x0 : List Pin) (n0 : Int) (x1 : Pin → Option Bool) : Option (Int × List Pin) :=
  chk (0 ≤ n0 ∧ n0 ≤ (x0.length : Int)) <|
  (slices_IndexFunc (sub x0 0 n0) x1).bind fun w10_4 =>
  if w10_4 = (-1) then (
    some (n0, x0)
  ) else (
    chk (-9223372036854775808 ≤ w10_4 + 1 ∧ w10_4 + 1 ≤ 9223372036854775807) <|
    (loop (slices_DeleteFunc_L1 n0 x1) (w10_4, w10_4 + 1, x0)).bind fun (v5_13, l0_14) =>
    chk (0 ≤ n0 ∧ n0 ≤ (l0_14.length : Int)) <|
    chk ((0 : Int) ≤ v5_13 ∧ v5_13 ≤ n0 ∧ n0 ≤ n0 ∧ v5_13 < n0) <|
    chk (0 ≤ v5_13 ∧ 0 ≤ n0 - v5_13 ∧ v5_13 + (n0 - v5_13) ≤ (l0_14.length : Int)) <|
    (some (over l0_14 v5_13 (List.replicate (n0 - v5_13).toNat (⟨0, 0, 0⟩ : Pin)))).bind fun l0_53 =>
    chk (0 ≤ n0 ∧ n0 ≤ (l0_53.length : Int)) <|
    chk ((0 : Int) ≤ (0 : Int) ∧ (0 : Int) ≤ v5_13 ∧ v5_13 ≤ n0 ∧ (0 : Int) < n0) <|
    some (v5_13, l0_53)
  )
theorem link_slices_DeleteFunc {x0 : List Pin} {n0 : Int} {x1 : Pin → Option Bool} {f1 : FuncId} {cs1 : List PV} (ok1 : callOk Try.prog f1 = true) (cp1 : CapOk cs1) (hx1 : ∀ {a0 : Pin} {r : Bool}, x1 a0 = some r → PCalls Try.prog f1 ([.agg (cPin a0)] ++ cs1) (.v (.bool r))) {r : Int × List Pin} (h : slices_DeleteFunc x0 n0 x1 = some r) : PCallsB Try.prog 43 [] [fl cPin x0] [sbv 0 3 0 n0 none, .fn f1 cs1] (sbv 0 3 0 r.1 none) [fl cPin r.2] := by
  unfold slices_DeleteFunc at h
  refine pcallsB [0] [sbv 0 3 0 r.1 none] is43 rfl rfl na43 ?_
  try simp -implicitDefEqProofs
  have sc1 := cp1.sc
  have mc1 := cp1.mc
  have rf1 := cp1.rf
  have rw1 := cp1.rw
  have oc1 := cp1.oc
  refine go_seq ?_
  refine go_reg ?_
  try simp -implicitDefEqProofs
  repeat (with_reducible refine And.intro (by omega) ?_)
  refine go_seq ?_
  refine go_reg ?_
  obtain ⟨⟨c_2, c_3⟩, h⟩ := chk_elim h
  obtain ⟨w10_4, hc, h⟩ := bind_elim h
  try simp -implicitDefEqProofs [sc1, c_2, c_3]
  repeat (with_reducible refine And.intro (by omega) ?_)
  refine runC_t (link_slices_IndexFunc (f1 := f1) (cs1 := cs1) ok1 cp1 hx1 hc) (by simp [rw1]) ?_
  try simp -implicitDefEqProofs
  repeat (with_reducible refine And.intro (by omega) ?_)
  refine go_seq ?_
  refine go_seq ?_
  refine go_reg ?_
  try simp -implicitDefEqProofs
  repeat (with_reducible refine And.intro (by omega) ?_)
  refine go_cond ?_
  try simp -implicitDefEqProofs
  repeat (with_reducible refine And.intro (by omega) ?_)
  first | with_reducible refine selP_ite h (by first | exact Iff.rfl | omega | (simp; done) | (simp [Pin.eqi]; done) | fail) ?_ ?_ | with_reducible refine selP_ite2 h (by first | exact Iff.rfl | omega | (simp; done) | (simp [Pin.eqi]; done) | fail) ?_ ?_ | with_reducible refine selP_ite h (by first | (simp only [Pin.eqi]; grind) | grind | fail) ?_ ?_ | with_reducible refine selP_ite2 h (by first | (simp only [Pin.eqi]; grind) | grind | fail) ?_ ?_
  · intro c_5 p_5 h
    refine go_seq ?_
    refine go_reg ?_
    try simp -implicitDefEqProofs [c_5]
    repeat (with_reducible refine And.intro (by omega) ?_)
    obtain rfl := Option.some.inj h
    refine go_ret ?_
    refine ⟨ksOk_one (by simp), by simp, by simp, by simp⟩
  · intro c_5 p_5 h
    refine go_skip ?_
    refine go_seq ?_
    refine go_seq ?_
    refine go_reg ?_
    obtain ⟨⟨c_7, c_8⟩, h⟩ := chk_elim h
    try simp -implicitDefEqProofs [c_5, c_7, c_8]
    repeat (with_reducible refine And.intro (by omega) ?_)
    refine go_block ?_
    obtain ⟨rr_62, h, hn_9⟩ := bind_elim h
    refine go_loop (ε := Int × List Pin) h 0 (fun e => e) (fun (v5__10, v6__11, l0_12) => [(⟨.a, .a, .f⟩, .v (.int .i64 v5__10)), (⟨.a, .a, .g⟩, .v (.int .i64 v6__11))]) (fun (v5__10, v6__11, l0_12) => [fl cPin l0_12]) (fun (v5__10, v6__11, l0_12) => []) (fun (v5_13, l0_14) => [(⟨.a, .a, .f⟩, .v (.int .i64 v5_13))]) (fun (v5_13, l0_14) => [fl cPin l0_14]) (fun (v5_13, l0_14) => []) (wkN_of 0 [] (by simp [oc1]) (by simp) (by simp) (by simp) (by simp)) ?_ ?_
    · rintro ⟨v5_13, l0_14⟩ hq
      try simp -implicitDefEqProofs
      have h := hn_9
      rw [hq] at h
      try dsimp only at h
      refine go_seq ?_
      refine go_reg ?_
      obtain ⟨⟨c_42, c_43⟩, h⟩ := chk_elim h
      obtain ⟨⟨c_45, c_46, c_47, c_48⟩, h⟩ := chk_elim h
      try simp -implicitDefEqProofs
      repeat (with_reducible refine And.intro (by omega) ?_)
      refine runR_slbT v5_13 n0 (by rfl) (by first | rfl | exact ⟨.i64, by first | rfl | simp⟩) (by first | rfl | exact ⟨.i64, by first | rfl | simp⟩) (by omega) c_42 c_45 c_46 (.inl c_47) (.inl c_48) ?_
      obtain ⟨⟨c_50, c_51, c_52⟩, h⟩ := chk_elim h
      obtain ⟨l0_53, hl0_53, h⟩ := bind_elim h
      have hl0_53 := Option.some.inj hl0_53
      try simp -implicitDefEqProofs
      repeat (with_reducible refine And.intro (by omega) ?_)
      refine runR_clrT (c := cPin) (⟨0, 0, 0⟩ : Pin) l0_14 (by rfl) (by rfl) (by rfl) c_50 c_51 c_52 ?_
      rw [hl0_53]
      try simp -implicitDefEqProofs
      repeat (with_reducible refine And.intro (by omega) ?_)
      refine go_seq ?_
      refine go_reg ?_
      obtain ⟨⟨c_55, c_56⟩, h⟩ := chk_elim h
      obtain ⟨⟨c_58, c_59, c_60, c_61⟩, h⟩ := chk_elim h
      try simp -implicitDefEqProofs
      repeat (with_reducible refine And.intro (by omega) ?_)
      refine runR_slbT 0 v5_13 (by rfl) (by first | rfl | exact ⟨.i64, by first | rfl | simp⟩) (by first | rfl | exact ⟨.i64, by first | rfl | simp⟩) (by omega) c_55 c_58 c_59 (.inl c_60) (.inl c_61) ?_
      try simp -implicitDefEqProofs
      repeat (with_reducible refine And.intro (by omega) ?_)
      obtain rfl := Option.some.inj h
      refine go_ret ?_
      refine ⟨ksOk_one (by simp), by simp, by simp, by simp⟩
    · rintro ⟨v5__10, v6__11, l0_12⟩ o B' E' h hB hE hR
      simp only [slices_DeleteFunc_L1] at h
      simp -implicitDefEqProofs
      refine go_seq ?_
      refine go_seq ?_
      refine go_reg ?_
      obtain ⟨⟨c_16, c_17⟩, h⟩ := chk_elim h
      try simp -implicitDefEqProofs [c_16]
      repeat (with_reducible refine And.intro (by omega) ?_)
      refine go_cond ?_
      try simp -implicitDefEqProofs
      repeat (with_reducible refine And.intro (by omega) ?_)
      first | with_reducible refine selP_ite h (by first | exact Iff.rfl | omega | (simp; done) | (simp [Pin.eqi]; done) | fail) ?_ ?_ | with_reducible refine selP_ite2 h (by first | exact Iff.rfl | omega | (simp; done) | (simp [Pin.eqi]; done) | fail) ?_ ?_ | with_reducible refine selP_ite h (by first | (simp only [Pin.eqi]; grind) | grind | fail) ?_ ?_ | with_reducible refine selP_ite2 h (by first | (simp only [Pin.eqi]; grind) | grind | fail) ?_ ?_
      · intro c_18 p_18 h
        refine go_skip ?_
        refine go_seq ?_
        refine go_block ?_
        refine go_seq ?_
        refine go_reg ?_
        obtain ⟨⟨c_20, c_21⟩, h⟩ := chk_elim h
        have k_22 : nat v6__11 < l0_12.length := nat_lt (by omega) (by omega)
        try simp -implicitDefEqProofs [c_16, c_18, c_20, k_22]
        repeat (with_reducible refine And.intro (by omega) ?_)
        refine go_seq ?_
        refine go_reg ?_
        obtain ⟨w28_23, hc, h⟩ := bind_elim h
        try simp -implicitDefEqProofs [ok1, sc1]
        repeat (with_reducible refine And.intro (by omega) ?_)
        refine runC_t (hx1 hc) (by simp [rf1]) ?_
        try simp -implicitDefEqProofs
        repeat (with_reducible refine And.intro (by omega) ?_)
        refine go_join h [⟨.a, .a, .f⟩, ⟨.a, .d, .g⟩, ⟨.a, .d, .h⟩, ⟨.a, .e, .a⟩, ⟨.a, .e, .b⟩, ⟨.a, .e, .c⟩, ⟨.a, .e, .d⟩] (fun (v5_24, l0_25) => [(⟨.a, .a, .f⟩, .v (.int .i64 v5_24))]) (fun (v5_24, l0_25) => [fl cPin l0_25, [.v (.int .i64 ((at' l0_12 v6__11).From)), .v (.int .i64 ((at' l0_12 v6__11).To)), .v (.int .i64 ((at' l0_12 v6__11).Word))]]) (fun (v5_24, l0_25) => []) (by repeat (first | exact soft_c | refine soft_b ?_)) ?_ ?_
        · rintro ⟨v5_24, l0_25⟩ h
          try dsimp only at h
          try simp -implicitDefEqProofs
          refine go_b ?_
          refine go_reg ?_
          obtain ⟨⟨c_39, c_40⟩, h⟩ := chk_elim h
          try simp -implicitDefEqProofs [c_39, c_40]
          repeat (with_reducible refine And.intro (by omega) ?_)
          refine go_l ?_
          exact hB _ _ (Option.some.inj h).symm (wkN_of 0 [] (by simp [oc1]) (by simp) (by simp) (by simp) (by simp))
        · intro v E h hJ
          refine go_cond ?_
          try simp -implicitDefEqProofs
          repeat (with_reducible refine And.intro (by omega) ?_)
          first | with_reducible refine selP_ite h (by first | exact Iff.rfl | omega | (simp; done) | (simp; done) | fail) ?_ ?_ | with_reducible refine selP_ite2 h (by first | exact Iff.rfl | omega | (simp; done) | (simp [Pin.eqi]; done) | fail) ?_ ?_ | with_reducible refine selP_ite h (by first | (simp only [Pin.eqi]; grind) | grind | fail) ?_ ?_ | with_reducible refine selP_ite2 h (by first | (simp only [Pin.eqi]; grind) | grind | fail) ?_ ?_
          · intro c_27 p_27 h
            refine go_skip ?_
            refine go_l ?_
            obtain rfl := Option.some.inj h
            exact hJ _ (wkN_of 0 [] (by simp [oc1, c_27]) (by simp [c_27]) (by simp) (by simp) (by simp))
          · intro c_27 p_27 h
            have q_27 := eq_false_of_ne_true c_27
            refine go_seq ?_
            refine go_reg ?_
            obtain ⟨⟨c_29, c_30⟩, h⟩ := chk_elim h
            have k_31 : nat v5__10 < l0_12.length := nat_lt (by omega) (by omega)
            obtain ⟨l0_32, hl0_32, h⟩ := bind_elim h
            have hl0_32 := Option.some.inj hl0_32
            try simp -implicitDefEqProofs [c_16, p_27, c_29, c_30, k_31]
            repeat (with_reducible refine And.intro (by omega) ?_)
            rw [setAt_pev (c := cPin) l0_12 0 v5__10 0 _ (at' l0_12 v6__11) k_31 (by simp) (by simp [setAt])]
            rw [hl0_32]
            have k_33 : nat v6__11 < l0_32.length := by rw [← hl0_32]; simpa using k_22
            have k_34 : nat v5__10 < l0_32.length := by rw [← hl0_32]; simpa using k_31
            try simp -implicitDefEqProofs [ok1, sc1, rf1, rw1, oc1, mc1, c_16, c_17, c_18, p_18, c_20, c_21, k_22, c_27, p_27, q_27, c_29, c_30, k_31, k_33, k_34]
            repeat (with_reducible refine And.intro (by omega) ?_)
            refine go_reg ?_
            obtain ⟨⟨c_36, c_37⟩, h⟩ := chk_elim h
            try simp -implicitDefEqProofs [c_36, c_37]
            repeat (with_reducible refine And.intro (by omega) ?_)
            refine go_l ?_
            obtain rfl := Option.some.inj h
            exact hJ _ (wkN_of 0 [] (by simp [oc1, c_27]) (by simp [c_27]) (by simp) (by simp) (by simp))
      · intro c_18 p_18 h
        refine go_exit ?_
        simp -implicitDefEqProofs
        exact hE _ _ (Option.some.inj h).symm (wkN_of 0 [] (by simp [oc1, c_18]) (by simp) (by simp) (by simp) (by simp))
end Go.Proofs.Ytdkancgcefklfaa
