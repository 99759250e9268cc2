/-
  Typed functions that compute what the functions 8 of the program compute, and that they do.
-/
import Derived.Test.YtdkancgcefklfaaK9
namespace Go.Proofs.Ytdkancgcefklfaa
open Go.RowKit
structure Arr2U8 where
  x0 : UInt8
  x1 : UInt8
  deriving DecidableEq, Inhabited
theorem Arr2U8.eqi (a b : Arr2U8) : a = b ↔ a.x0 = b.x0 ∧ a.x1 = b.x1 := by
  cases a; cases b; simp
def cArr2U8 (x : Arr2U8) : List PV := [.v (.int .u8 (x.x0.toNat : Int)), .v (.int .u8 (x.x1.toNat : Int))]
@[simp] theorem cArr2U8_eq (x : Arr2U8) : cArr2U8 x = [.v (.int .u8 (x.x0.toNat : Int)), .v (.int .u8 (x.x1.toNat : Int))] := rfl
instance : CSz cArr2U8 2 := ⟨fun _ => rfl⟩
instance : CSh cArr2U8 := ⟨fun _ => rfl, fun _ _ _ _ => by simp [wkL], fun _ p h => by simp at h; rcases h with rfl | rfl <;> rfl⟩
def law18_PinSegments_L1 (_x0 : List Arr3U8) (x1 : Arr2U8) (w30_6 : List (List Edge)) : (List Pin × List Pin × Int) → Option ((List Pin × List Pin × Int) ⊕ (Bool ⊕ (List Pin × List Pin))) := fun (v10__18, v11__19, v12__20) =>
  if 0 ≤ v12__20 then (
    chk (0 ≤ v12__20 ∧ v12__20 < ((at' w30_6 (rem (x1.x1.toNat : Int) (w30_6.length : Int))).length : Int)) <|
    (pin_Put v10__18 (⟨(at' (at' w30_6 (rem (x1.x1.toNat : Int) (w30_6.length : Int))) v12__20).From, (at' (at' w30_6 (rem (x1.x1.toNat : Int) (w30_6.length : Int))) v12__20).To, (at' (at' w30_6 (rem (x1.x1.toNat : Int) (w30_6.length : Int))) v12__20).Word⟩ : Pin) (1 + (rem (x1.x0.toNat : Int) 5))).bind fun w72_28 =>
    (pin_Put v11__19 (⟨(at' (at' w30_6 (rem (x1.x1.toNat : Int) (w30_6.length : Int))) v12__20).From, (at' (at' w30_6 (rem (x1.x1.toNat : Int) (w30_6.length : Int))) v12__20).To, (-1)⟩ : Pin) (1 + (rem (x1.x0.toNat : Int) 5))).bind fun w89_29 =>
    (
      (
        if w72_28.2 = 0 then (
          some (!decide (w89_29.2 = 0))
        ) else (
          some true
        )
      : Option (Bool))
    ).bind fun v97_30 =>
    if v97_30 = true then (
      some (.inr (.inl false))
    ) else (
      chk (-9223372036854775808 ≤ v12__20 - 1 ∧ v12__20 - 1 ≤ 9223372036854775807) <|
      some (.inl (w72_28.1, w89_29.1, v12__20 - 1))
    )
  ) else (
    some (.inr (.inr (v10__18, v11__19)))
  )
def law18_PinSegments_L2 (v11_22 : List Pin) (w105_38 : Lattice) : Int → Option (Int ⊕ (Bool ⊕ Unit)) := fun v19__45 =>
  if v19__45 < (w105_38.Edges.length : Int) then (
    chk (0 ≤ v19__45 ∧ v19__45 < (w105_38.Edges.length : Int)) <|
    (ref18_Has v11_22 (⟨(at' w105_38.Edges v19__45).From, (at' w105_38.Edges v19__45).To, (-1)⟩ : Pin)).bind fun w143_51 =>
    if w143_51 = true then (
      chk (-9223372036854775808 ≤ v19__45 + 1 ∧ v19__45 + 1 ≤ 9223372036854775807) <|
      some (.inl (v19__45 + 1))
    ) else (
      some (.inr (.inl false))
    )
  ) else (
    some (.inr (.inr ()))
  )
def law18_PinSegments (x0 : List Arr3U8) (x1 : Arr2U8) : Option Bool :=
  (law18_sanity).bind fun w20_1 =>
  chk (-9223372036854775808 ≤ 1 + (rem (x1.x0.toNat : Int) 5) ∧ 1 + (rem (x1.x0.toNat : Int) 5) ≤ 9223372036854775807) <|
  (ref18_Lattice x0 (1 + (rem (x1.x0.toNat : Int) 5))).bind fun w28_5 =>
  (ref18_Ways w28_5 0).bind fun w30_6 =>
  if (w30_6.length : Int) = 0 then (
    some w20_1
  ) else (
    chk ((w30_6.length : Int) ≠ 0) <|
    chk (0 ≤ rem (x1.x1.toNat : Int) (w30_6.length : Int) ∧ rem (x1.x1.toNat : Int) (w30_6.length : Int) < (w30_6.length : Int)) <|
    chk (-9223372036854775808 ≤ ((at' w30_6 (rem (x1.x1.toNat : Int) (w30_6.length : Int))).length : Int) - 1 ∧ ((at' w30_6 (rem (x1.x1.toNat : Int) (w30_6.length : Int))).length : Int) - 1 ≤ 9223372036854775807) <|
    (loop (law18_PinSegments_L1 x0 x1 w30_6) ([], [], ((at' w30_6 (rem (x1.x1.toNat : Int) (w30_6.length : Int))).length : Int) - 1)).bind fun
    | .inl e => some e
    | .inr (v10_21, v11_22) =>
    (pin_Restrict w28_5 v10_21).bind fun w102_37 =>
    (pin_Restrict w28_5 v11_22).bind fun w105_38 =>
    (
      (
        (ref18_SameEdges (⟨0, w102_37.Edges⟩ : Lattice) (⟨0, at' w30_6 (rem (x1.x1.toNat : Int) (w30_6.length : Int))⟩ : Lattice)).bind fun w111_41 =>
        if w111_41 = true then (
          some (decide ((w28_5.Edges.length : Int) < (w105_38.Edges.length : Int)))
        ) else (
          some true
        )
      : Option (Bool))
    ).bind fun v121_39 =>
    if v121_39 = true then (
      some false
    ) else (
      (loop (law18_PinSegments_L2 v11_22 w105_38) 0).bind fun
      | .inl e => some e
      | .inr _ =>
      (
        (
          if ((at' w30_6 (rem (x1.x1.toNat : Int) (w30_6.length : Int))).length : Int) ≤ (w105_38.Edges.length : Int) then (
            some w20_1
          ) else (
            some false
          )
        : Option (Bool))
      ).bind fun v4_56 =>
      some v4_56
    )
  )
theorem link_law18_PinSegments {x0 : List Arr3U8} {x1 : Arr2U8} {r : Bool} (h : law18_PinSegments x0 x1 = some r) : PCalls Try.prog 8 [.sl 3 (mp cArr3U8 x0) .lent, .agg (cArr2U8 x1)] (.v (.bool r)) := by
  unfold law18_PinSegments at h
  refine pcalls is8 na8 ?_
  try simp -implicitDefEqProofs
  refine go_seq ?_
  refine go_reg ?_
  try simp -implicitDefEqProofs
  repeat (with_reducible refine And.intro (by omega) ?_)
  refine go_seq ?_
  refine go_reg ?_
  obtain ⟨w20_1, hc, h⟩ := bind_elim h
  try simp -implicitDefEqProofs
  repeat (with_reducible refine And.intro (by omega) ?_)
  refine runC_t (link_law18_sanity hc) (by simp) ?_
  try simp -implicitDefEqProofs
  repeat (with_reducible refine And.intro (by omega) ?_)
  refine go_seq ?_
  refine go_reg ?_
  obtain ⟨⟨c_3, c_4⟩, h⟩ := chk_elim h
  try simp -implicitDefEqProofs [c_3, c_4]
  repeat (with_reducible refine And.intro (by omega) ?_)
  refine go_seq ?_
  refine go_reg ?_
  obtain ⟨w28_5, hc, h⟩ := bind_elim h
  try simp -implicitDefEqProofs
  repeat (with_reducible refine And.intro (by omega) ?_)
  refine runC_t (link_ref18_Lattice hc) (by simp) ?_
  try simp -implicitDefEqProofs
  repeat (with_reducible refine And.intro (by omega) ?_)
  refine go_seq ?_
  refine go_reg ?_
  obtain ⟨w30_6, hc, h⟩ := bind_elim h
  try simp -implicitDefEqProofs
  repeat (with_reducible refine And.intro (by omega) ?_)
  refine runC_t (link_ref18_Ways hc) (by simp) ?_
  try simp -implicitDefEqProofs
  repeat (with_reducible refine And.intro (by omega) ?_)
  refine go_seq ?_
  refine go_seq ?_
  refine go_reg ?_
  try simp -implicitDefEqProofs
  repeat (with_reducible refine And.intro (by omega) ?_)
  refine go_cond ?_
  try simp -implicitDefEqProofs
  repeat (with_reducible refine And.intro (by omega) ?_)
  first | with_reducible refine selP_ite h (by first | exact Iff.rfl | omega | (simp; done) | (simp [Arr3U8.eqi, Arr2U8.eqi, Lattice.eqi, Edge.eqi, Pin.eqi]; done) | fail) ?_ ?_ | with_reducible refine selP_ite2 h (by first | exact Iff.rfl | omega | (simp; done) | (simp [Arr3U8.eqi, Arr2U8.eqi, Lattice.eqi, Edge.eqi, Pin.eqi]; done) | fail) ?_ ?_ | with_reducible refine selP_ite h (by first | (simp only [Arr3U8.eqi, Arr2U8.eqi, Lattice.eqi, Edge.eqi, Pin.eqi]; grind) | grind | fail) ?_ ?_ | with_reducible refine selP_ite2 h (by first | (simp only [Arr3U8.eqi, Arr2U8.eqi, Lattice.eqi, Edge.eqi, Pin.eqi]; grind) | grind | fail) ?_ ?_
  · intro c_7 p_7 h
    refine go_seq ?_
    refine go_reg ?_
    try simp -implicitDefEqProofs [p_7]
    repeat (with_reducible refine And.intro (by omega) ?_)
    obtain rfl := Option.some.inj h
    refine go_ret ?_
    simp -implicitDefEqProofs
  · intro c_7 p_7 h
    refine go_skip ?_
    refine go_seq ?_
    refine go_reg ?_
    obtain ⟨c_8, h⟩ := chk_elim h
    have k_9 := c_8
    try simp at k_9
    obtain ⟨⟨c_11, c_12⟩, h⟩ := chk_elim h
    have k_13 := toNat_lt c_11 c_12
    try simp -implicitDefEqProofs [p_7, c_11, c_12, k_13]
    repeat (with_reducible refine And.intro (by omega) ?_)
    refine go_seq ?_
    refine go_reg ?_
    try simp -implicitDefEqProofs
    repeat (with_reducible refine And.intro (by omega) ?_)
    refine go_seq ?_
    refine go_seq ?_
    refine go_reg ?_
    obtain ⟨⟨c_15, c_16⟩, h⟩ := chk_elim h
    try simp -implicitDefEqProofs [c_15, c_16]
    repeat (with_reducible refine And.intro (by omega) ?_)
    refine go_block ?_
    obtain ⟨rr_60, h, hn_17⟩ := bind_elim h
    refine go_loop (ε := List Pin × List Pin) h 0 (fun e => .inr e) (fun (v10__18, v11__19, v12__20) => [(⟨.a, .b, .c⟩, .sl 3 (mp cPin v10__18) .none), (⟨.a, .b, .d⟩, .sl 3 (mp cPin v11__19) .none), (⟨.a, .b, .e⟩, .v (.int .i64 v12__20))]) (fun (v10__18, v11__19, v12__20) => [[.v (.int .u8 (x1.x0.toNat : Int)), .v (.int .u8 (x1.x1.toNat : Int))], [.v (.int .i64 w28_5.N), .sl 4 (mp cEdge w28_5.Edges) .none]]) (fun (v10__18, v11__19, v12__20) => []) (fun (v10_21, v11_22) => [(⟨.a, .b, .c⟩, .sl 3 (mp cPin v10_21) .none), (⟨.a, .b, .d⟩, .sl 3 (mp cPin v11_22) .none)]) (fun (v10_21, v11_22) => [[.v (.int .u8 (x1.x0.toNat : Int)), .v (.int .u8 (x1.x1.toNat : Int))], [.v (.int .i64 w28_5.N), .sl 4 (mp cEdge w28_5.Edges) .none]]) (fun (v10_21, v11_22) => []) (wkN_of 0 [] (by simp [p_7]) (by simp) (by simp) (by simp) (by simp)) ?_ ?_
    · rintro ⟨v10_21, v11_22⟩ hq
      try simp -implicitDefEqProofs
      have h := hn_17
      rw [hq] at h
      try dsimp only at h
      refine go_seq ?_
      refine go_fork ?_
      obtain ⟨w102_37, hc, h⟩ := bind_elim h
      try simp -implicitDefEqProofs
      repeat (with_reducible refine And.intro (by omega) ?_)
      refine runC_t (link_pin_Restrict hc) (by simp) ?_
      obtain ⟨w105_38, hc, h⟩ := bind_elim h
      try simp -implicitDefEqProofs
      repeat (with_reducible refine And.intro (by omega) ?_)
      refine runC_t (link_pin_Restrict hc) (by simp) ?_
      try simp -implicitDefEqProofs
      repeat (with_reducible refine And.intro (by omega) ?_)
      refine ⟨?_, ?_⟩
      · skip
        try simp -implicitDefEqProofs [c_3, c_4, c_7, p_7, c_8, k_9, c_11, c_12, k_13, c_15, c_16]
        repeat (with_reducible refine And.intro (by omega) ?_)
        refine ⟨_, WkN.refl _ _, ?_⟩
        try simp -implicitDefEqProofs
        refine go_seq ?_
        refine go_seq ?_
        refine go_reg ?_
        refine run_join h [⟨.b, .f, .c⟩, ⟨.b, .f, .d⟩, ⟨.b, .f, .e⟩, ⟨.b, .f, .f⟩, ⟨.b, .f, .g⟩, ⟨.b, .f, .h⟩, ⟨.b, .g, .a⟩, ⟨.b, .g, .b⟩, ⟨.b, .g, .c⟩, ⟨.b, .g, .d⟩, ⟨.b, .g, .e⟩, ⟨.b, .g, .f⟩, ⟨.b, .g, .g⟩, ⟨.b, .g, .h⟩, ⟨.b, .h, .a⟩, ⟨.b, .h, .b⟩] (fun v121_39 => [(⟨.b, .h, .b⟩, .v (.bool v121_39))]) (fun v121_39 => [[.v (.int .u8 (x1.x0.toNat : Int)), .v (.int .u8 (x1.x1.toNat : Int))], [.v (.int .i64 w28_5.N), .sl 4 (mp cEdge w28_5.Edges) .none], [.v (.int .i64 w102_37.N), .sl 4 (mp cEdge w102_37.Edges) .none], [.v (.int .i64 w105_38.N), .sl 4 (mp cEdge w105_38.Edges) .none]]) (fun v121_39 => []) (by repeat (first | exact soft_c | refine soft_b ?_)) ?_ ?_
        · rintro v121_39 h
          try dsimp only at h
          try simp -implicitDefEqProofs
          refine go_cond ?_
          try simp -implicitDefEqProofs
          repeat (with_reducible refine And.intro (by omega) ?_)
          first | with_reducible refine selP_ite h (by first | exact Iff.rfl | omega | (simp; done) | (simp [Arr3U8.eqi, Arr2U8.eqi, Lattice.eqi, Edge.eqi, Pin.eqi]; done) | fail) ?_ ?_ | with_reducible refine selP_ite2 h (by first | exact Iff.rfl | omega | (simp; done) | (simp [Arr3U8.eqi, Arr2U8.eqi, Lattice.eqi, Edge.eqi, Pin.eqi]; done) | fail) ?_ ?_ | with_reducible refine selP_ite h (by first | (simp only [Arr3U8.eqi, Arr2U8.eqi, Lattice.eqi, Edge.eqi, Pin.eqi]; grind) | grind | fail) ?_ ?_ | with_reducible refine selP_ite2 h (by first | (simp only [Arr3U8.eqi, Arr2U8.eqi, Lattice.eqi, Edge.eqi, Pin.eqi]; grind) | grind | fail) ?_ ?_
          · intro c_43 p_43 h
            refine go_seq ?_
            refine go_reg ?_
            try simp -implicitDefEqProofs [c_43]
            repeat (with_reducible refine And.intro (by omega) ?_)
            obtain rfl := Option.some.inj h
            refine go_ret ?_
            simp -implicitDefEqProofs
          · intro c_43 p_43 h
            have q_43 := eq_false_of_ne_true c_43
            refine go_skip ?_
            refine go_seq ?_
            refine go_seq ?_
            refine go_reg ?_
            try simp -implicitDefEqProofs [q_43]
            repeat (with_reducible refine And.intro (by omega) ?_)
            refine go_block ?_
            obtain ⟨rr_59, h, hn_44⟩ := bind_elim h
            refine go_loop (ε := Unit) h 2 (fun e => .inr e) (fun v19__45 => [(⟨.a, .c, .d⟩, .v (.int .i64 v19__45))]) (fun v19__45 => [[.v (.int .u8 (x1.x0.toNat : Int)), .v (.int .u8 (x1.x1.toNat : Int))], [.v (.int .i64 w28_5.N), .sl 4 (mp cEdge w28_5.Edges) .none], [.v (.int .i64 w102_37.N), .sl 4 (mp cEdge w102_37.Edges) .none], [.v (.int .i64 w105_38.N), .sl 4 (mp cEdge w105_38.Edges) .none]]) (fun v19__45 => []) (fun _ => []) (fun _ => [[.v (.int .u8 (x1.x0.toNat : Int)), .v (.int .u8 (x1.x1.toNat : Int))], [.v (.int .i64 w28_5.N), .sl 4 (mp cEdge w28_5.Edges) .none], [.v (.int .i64 w102_37.N), .sl 4 (mp cEdge w102_37.Edges) .none], [.v (.int .i64 w105_38.N), .sl 4 (mp cEdge w105_38.Edges) .none]]) (fun _ => []) (wkN_of 0 [] (by simp [p_7]) (by simp) (by simp) (by simp) (by simp)) ?_ ?_
            · rintro ⟨⟩ hq
              try simp -implicitDefEqProofs
              have h := hn_44
              rw [hq] at h
              try dsimp only at h
              refine go_seq ?_
              refine go_reg ?_
              refine run_join h [⟨.a, .a, .e⟩, ⟨.c, .c, .b⟩, ⟨.c, .c, .c⟩, ⟨.c, .c, .d⟩, ⟨.c, .c, .e⟩, ⟨.c, .c, .f⟩, ⟨.c, .c, .g⟩, ⟨.c, .c, .h⟩, ⟨.c, .d, .a⟩, ⟨.c, .d, .b⟩] (fun v4_56 => [(⟨.a, .a, .e⟩, .v (.bool v4_56))]) (fun v4_56 => [[.v (.int .u8 (x1.x0.toNat : Int)), .v (.int .u8 (x1.x1.toNat : Int))], [.v (.int .i64 w28_5.N), .sl 4 (mp cEdge w28_5.Edges) .none], [.v (.int .i64 w102_37.N), .sl 4 (mp cEdge w102_37.Edges) .none], [.v (.int .i64 w105_38.N), .sl 4 (mp cEdge w105_38.Edges) .none]]) (fun v4_56 => []) (by repeat (first | exact soft_c | refine soft_b ?_)) ?_ ?_
              · rintro v4_56 h
                try dsimp only at h
                try simp -implicitDefEqProofs
                obtain rfl := Option.some.inj h
                refine go_ret ?_
                simp -implicitDefEqProofs
              · intro v E h hJ
                try simp -implicitDefEqProofs
                repeat (with_reducible refine And.intro (by omega) ?_)
                first | with_reducible refine selP_ite h (by first | exact Iff.rfl | omega | (simp; done) | (simp [Arr3U8.eqi, Arr2U8.eqi, Lattice.eqi, Edge.eqi, Pin.eqi]; done) | fail) ?_ ?_ | with_reducible refine selP_ite2 h (by first | exact Iff.rfl | omega | (simp; done) | (simp [Arr3U8.eqi, Arr2U8.eqi, Lattice.eqi, Edge.eqi, Pin.eqi]; done) | fail) ?_ ?_ | with_reducible refine selP_ite h (by first | (simp only [Arr3U8.eqi, Arr2U8.eqi, Lattice.eqi, Edge.eqi, Pin.eqi]; grind) | grind | fail) ?_ ?_ | with_reducible refine selP_ite2 h (by first | (simp only [Arr3U8.eqi, Arr2U8.eqi, Lattice.eqi, Edge.eqi, Pin.eqi]; grind) | grind | fail) ?_ ?_
                · intro c_58 p_58 h
                  try simp -implicitDefEqProofs [p_58]
                  repeat (with_reducible refine And.intro (by omega) ?_)
                  refine go_l ?_
                  obtain rfl := Option.some.inj h
                  exact hJ _ (wkN_of 0 [] (by simp [p_7]) (by simp) (by simp) (by simp) (by simp))
                · intro c_58 p_58 h
                  try simp -implicitDefEqProofs [p_58]
                  repeat (with_reducible refine And.intro (by omega) ?_)
                  refine go_l ?_
                  obtain rfl := Option.some.inj h
                  exact hJ _ (wkN_of 0 [] (by simp [p_7]) (by simp) (by simp) (by simp) (by simp))
            · rintro v19__45 o B' E' h hB hE hR
              simp only [law18_PinSegments_L2] at h
              simp -implicitDefEqProofs
              refine go_seq ?_
              refine go_seq ?_
              refine go_reg ?_
              try simp -implicitDefEqProofs
              repeat (with_reducible refine And.intro (by omega) ?_)
              refine go_cond ?_
              try simp -implicitDefEqProofs
              repeat (with_reducible refine And.intro (by omega) ?_)
              first | with_reducible refine selP_ite h (by first | exact Iff.rfl | omega | (simp; done) | (simp [Arr3U8.eqi, Arr2U8.eqi, Lattice.eqi, Edge.eqi, Pin.eqi]; done) | fail) ?_ ?_ | with_reducible refine selP_ite2 h (by first | exact Iff.rfl | omega | (simp; done) | (simp [Arr3U8.eqi, Arr2U8.eqi, Lattice.eqi, Edge.eqi, Pin.eqi]; done) | fail) ?_ ?_ | with_reducible refine selP_ite h (by first | (simp only [Arr3U8.eqi, Arr2U8.eqi, Lattice.eqi, Edge.eqi, Pin.eqi]; grind) | grind | fail) ?_ ?_ | with_reducible refine selP_ite2 h (by first | (simp only [Arr3U8.eqi, Arr2U8.eqi, Lattice.eqi, Edge.eqi, Pin.eqi]; grind) | grind | fail) ?_ ?_
              · intro c_46 p_46 h
                refine go_skip ?_
                refine go_seq ?_
                refine go_block ?_
                refine go_seq ?_
                refine go_reg ?_
                obtain ⟨⟨c_48, c_49⟩, h⟩ := chk_elim h
                have k_50 := toNat_lt c_48 c_49
                obtain ⟨w143_51, hc, h⟩ := bind_elim h
                try simp -implicitDefEqProofs [c_46, c_48, k_50]
                repeat (with_reducible refine And.intro (by omega) ?_)
                refine runC_t (link_ref18_Has hc) (by simp) ?_
                try simp -implicitDefEqProofs
                repeat (with_reducible refine And.intro (by omega) ?_)
                refine go_cond ?_
                try simp -implicitDefEqProofs
                repeat (with_reducible refine And.intro (by omega) ?_)
                first | with_reducible refine selP_ite h (by first | exact Iff.rfl | omega | (simp; done) | (simp; done) | fail) ?_ ?_ | with_reducible refine selP_ite2 h (by first | exact Iff.rfl | omega | (simp; done) | (simp [Arr3U8.eqi, Arr2U8.eqi, Lattice.eqi, Edge.eqi, Pin.eqi]; done) | fail) ?_ ?_ | with_reducible refine selP_ite h (by first | (simp only [Arr3U8.eqi, Arr2U8.eqi, Lattice.eqi, Edge.eqi, Pin.eqi]; grind) | grind | fail) ?_ ?_ | with_reducible refine selP_ite2 h (by first | (simp only [Arr3U8.eqi, Arr2U8.eqi, Lattice.eqi, Edge.eqi, Pin.eqi]; grind) | grind | fail) ?_ ?_
                · intro c_52 p_52 h
                  refine go_skip ?_
                  refine go_b ?_
                  refine go_reg ?_
                  obtain ⟨⟨c_54, c_55⟩, h⟩ := chk_elim h
                  try simp -implicitDefEqProofs [c_52, c_54, c_55]
                  repeat (with_reducible refine And.intro (by omega) ?_)
                  refine go_l ?_
                  exact hB _ _ (Option.some.inj h).symm (wkN_of 0 [] (by simp) (by simp) (by simp) (by simp) (by simp))
                · intro c_52 p_52 h
                  have q_52 := eq_false_of_ne_true c_52
                  refine go_seq ?_
                  refine go_reg ?_
                  try simp -implicitDefEqProofs [p_52]
                  repeat (with_reducible refine And.intro (by omega) ?_)
                  obtain rfl := hR _ (Option.some.inj h).symm
                  try dsimp only at hn_44
                  have h := hn_44
                  obtain rfl := Option.some.inj h
                  refine go_ret ?_
                  simp -implicitDefEqProofs
              · intro c_46 p_46 h
                refine go_exit ?_
                simp -implicitDefEqProofs
                exact hE _ _ (Option.some.inj h).symm (wkN_of 0 [] (by simp [c_46]) (by simp) (by simp) (by simp) (by simp))
        · intro v E h hJ
          obtain ⟨w111_41, hc, h⟩ := bind_elim h
          try simp -implicitDefEqProofs
          repeat (with_reducible refine And.intro (by omega) ?_)
          refine runC_t (link_ref18_SameEdges hc) (by simp) ?_
          try simp -implicitDefEqProofs
          repeat (with_reducible refine And.intro (by omega) ?_)
          first | with_reducible refine selP_ite h (by first | exact Iff.rfl | omega | (simp; done) | (simp [Arr3U8.eqi, Arr2U8.eqi, Lattice.eqi, Edge.eqi, Pin.eqi]; done) | fail) ?_ ?_ | with_reducible refine selP_ite2 h (by first | exact Iff.rfl | omega | (simp; done) | (simp [Arr3U8.eqi, Arr2U8.eqi, Lattice.eqi, Edge.eqi, Pin.eqi]; done) | fail) ?_ ?_ | with_reducible refine selP_ite h (by first | (simp only [Arr3U8.eqi, Arr2U8.eqi, Lattice.eqi, Edge.eqi, Pin.eqi]; grind) | grind | fail) ?_ ?_ | with_reducible refine selP_ite2 h (by first | (simp only [Arr3U8.eqi, Arr2U8.eqi, Lattice.eqi, Edge.eqi, Pin.eqi]; grind) | grind | fail) ?_ ?_
          · intro c_42 p_42 h
            try simp -implicitDefEqProofs [c_42]
            repeat (with_reducible refine And.intro (by omega) ?_)
            refine go_l ?_
            obtain rfl := Option.some.inj h
            exact hJ _ (wkN_of 0 [] (by simp [p_7]) (by simp) (by simp) (by simp) (by simp))
          · intro c_42 p_42 h
            have q_42 := eq_false_of_ne_true c_42
            try simp -implicitDefEqProofs [q_42]
            repeat (with_reducible refine And.intro (by omega) ?_)
            refine go_l ?_
            obtain rfl := Option.some.inj h
            exact hJ _ (wkN_of 0 [] (by simp [p_7]) (by simp) (by simp) (by simp) (by simp))
      · skip
        try simp -implicitDefEqProofs [c_3, c_4, c_7, p_7, c_8, k_9, c_11, c_12, k_13, c_15, c_16]
        repeat (with_reducible refine And.intro (by omega) ?_)
        refine ⟨_, wk_perm [0, 1, 3, 2] (by decide) (by simp) (by decide), ?_⟩
        try simp -implicitDefEqProofs
        repeat (with_reducible refine And.intro (by omega) ?_)
        refine go_seq ?_
        refine go_seq ?_
        refine go_reg ?_
        refine run_join h [⟨.b, .f, .c⟩, ⟨.b, .f, .d⟩, ⟨.b, .f, .e⟩, ⟨.b, .f, .f⟩, ⟨.b, .f, .g⟩, ⟨.b, .f, .h⟩, ⟨.b, .g, .a⟩, ⟨.b, .g, .b⟩, ⟨.b, .g, .c⟩, ⟨.b, .g, .d⟩, ⟨.b, .g, .e⟩, ⟨.b, .g, .f⟩, ⟨.b, .g, .g⟩, ⟨.b, .g, .h⟩, ⟨.b, .h, .a⟩, ⟨.b, .h, .b⟩] (fun v121_39 => [(⟨.b, .h, .b⟩, .v (.bool v121_39))]) (fun v121_39 => [[.v (.int .u8 (x1.x0.toNat : Int)), .v (.int .u8 (x1.x1.toNat : Int))], [.v (.int .i64 w28_5.N), .sl 4 (mp cEdge w28_5.Edges) .none], [.v (.int .i64 w102_37.N), .sl 4 (mp cEdge w102_37.Edges) .none], [.v (.int .i64 w105_38.N), .sl 4 (mp cEdge w105_38.Edges) .none]]) (fun v121_39 => []) (by repeat (first | exact soft_c | refine soft_b ?_)) ?_ ?_
        · rintro v121_39 h
          try dsimp only at h
          try simp -implicitDefEqProofs
          refine go_cond ?_
          try simp -implicitDefEqProofs
          repeat (with_reducible refine And.intro (by omega) ?_)
          first | with_reducible refine selP_ite h (by first | exact Iff.rfl | omega | (simp; done) | (simp [Arr3U8.eqi, Arr2U8.eqi, Lattice.eqi, Edge.eqi, Pin.eqi]; done) | fail) ?_ ?_ | with_reducible refine selP_ite2 h (by first | exact Iff.rfl | omega | (simp; done) | (simp [Arr3U8.eqi, Arr2U8.eqi, Lattice.eqi, Edge.eqi, Pin.eqi]; done) | fail) ?_ ?_ | with_reducible refine selP_ite h (by first | (simp only [Arr3U8.eqi, Arr2U8.eqi, Lattice.eqi, Edge.eqi, Pin.eqi]; grind) | grind | fail) ?_ ?_ | with_reducible refine selP_ite2 h (by first | (simp only [Arr3U8.eqi, Arr2U8.eqi, Lattice.eqi, Edge.eqi, Pin.eqi]; grind) | grind | fail) ?_ ?_
          · intro c_43 p_43 h
            refine go_seq ?_
            refine go_reg ?_
            try simp -implicitDefEqProofs [c_43]
            repeat (with_reducible refine And.intro (by omega) ?_)
            obtain rfl := Option.some.inj h
            refine go_ret ?_
            simp -implicitDefEqProofs
          · intro c_43 p_43 h
            have q_43 := eq_false_of_ne_true c_43
            refine go_skip ?_
            refine go_seq ?_
            refine go_seq ?_
            refine go_reg ?_
            try simp -implicitDefEqProofs [q_43]
            repeat (with_reducible refine And.intro (by omega) ?_)
            refine go_block ?_
            obtain ⟨rr_59, h, hn_44⟩ := bind_elim h
            refine go_loop (ε := Unit) h 2 (fun e => .inr e) (fun v19__45 => [(⟨.a, .c, .d⟩, .v (.int .i64 v19__45))]) (fun v19__45 => [[.v (.int .u8 (x1.x0.toNat : Int)), .v (.int .u8 (x1.x1.toNat : Int))], [.v (.int .i64 w28_5.N), .sl 4 (mp cEdge w28_5.Edges) .none], [.v (.int .i64 w102_37.N), .sl 4 (mp cEdge w102_37.Edges) .none], [.v (.int .i64 w105_38.N), .sl 4 (mp cEdge w105_38.Edges) .none]]) (fun v19__45 => []) (fun _ => []) (fun _ => [[.v (.int .u8 (x1.x0.toNat : Int)), .v (.int .u8 (x1.x1.toNat : Int))], [.v (.int .i64 w28_5.N), .sl 4 (mp cEdge w28_5.Edges) .none], [.v (.int .i64 w102_37.N), .sl 4 (mp cEdge w102_37.Edges) .none], [.v (.int .i64 w105_38.N), .sl 4 (mp cEdge w105_38.Edges) .none]]) (fun _ => []) (wkN_of 0 [] (by simp [p_7]) (by simp) (by simp) (by simp) (by simp)) ?_ ?_
            · rintro ⟨⟩ hq
              try simp -implicitDefEqProofs
              have h := hn_44
              rw [hq] at h
              try dsimp only at h
              refine go_seq ?_
              refine go_reg ?_
              refine run_join h [⟨.a, .a, .e⟩, ⟨.c, .c, .b⟩, ⟨.c, .c, .c⟩, ⟨.c, .c, .d⟩, ⟨.c, .c, .e⟩, ⟨.c, .c, .f⟩, ⟨.c, .c, .g⟩, ⟨.c, .c, .h⟩, ⟨.c, .d, .a⟩, ⟨.c, .d, .b⟩] (fun v4_56 => [(⟨.a, .a, .e⟩, .v (.bool v4_56))]) (fun v4_56 => [[.v (.int .u8 (x1.x0.toNat : Int)), .v (.int .u8 (x1.x1.toNat : Int))], [.v (.int .i64 w28_5.N), .sl 4 (mp cEdge w28_5.Edges) .none], [.v (.int .i64 w102_37.N), .sl 4 (mp cEdge w102_37.Edges) .none], [.v (.int .i64 w105_38.N), .sl 4 (mp cEdge w105_38.Edges) .none]]) (fun v4_56 => []) (by repeat (first | exact soft_c | refine soft_b ?_)) ?_ ?_
              · rintro v4_56 h
                try dsimp only at h
                try simp -implicitDefEqProofs
                obtain rfl := Option.some.inj h
                refine go_ret ?_
                simp -implicitDefEqProofs
              · intro v E h hJ
                try simp -implicitDefEqProofs
                repeat (with_reducible refine And.intro (by omega) ?_)
                first | with_reducible refine selP_ite h (by first | exact Iff.rfl | omega | (simp; done) | (simp [Arr3U8.eqi, Arr2U8.eqi, Lattice.eqi, Edge.eqi, Pin.eqi]; done) | fail) ?_ ?_ | with_reducible refine selP_ite2 h (by first | exact Iff.rfl | omega | (simp; done) | (simp [Arr3U8.eqi, Arr2U8.eqi, Lattice.eqi, Edge.eqi, Pin.eqi]; done) | fail) ?_ ?_ | with_reducible refine selP_ite h (by first | (simp only [Arr3U8.eqi, Arr2U8.eqi, Lattice.eqi, Edge.eqi, Pin.eqi]; grind) | grind | fail) ?_ ?_ | with_reducible refine selP_ite2 h (by first | (simp only [Arr3U8.eqi, Arr2U8.eqi, Lattice.eqi, Edge.eqi, Pin.eqi]; grind) | grind | fail) ?_ ?_
                · intro c_58 p_58 h
                  try simp -implicitDefEqProofs [p_58]
                  repeat (with_reducible refine And.intro (by omega) ?_)
                  refine go_l ?_
                  obtain rfl := Option.some.inj h
                  exact hJ _ (wkN_of 0 [] (by simp [p_7]) (by simp) (by simp) (by simp) (by simp))
                · intro c_58 p_58 h
                  try simp -implicitDefEqProofs [p_58]
                  repeat (with_reducible refine And.intro (by omega) ?_)
                  refine go_l ?_
                  obtain rfl := Option.some.inj h
                  exact hJ _ (wkN_of 0 [] (by simp [p_7]) (by simp) (by simp) (by simp) (by simp))
            · rintro v19__45 o B' E' h hB hE hR
              simp only [law18_PinSegments_L2] at h
              simp -implicitDefEqProofs
              refine go_seq ?_
              refine go_seq ?_
              refine go_reg ?_
              try simp -implicitDefEqProofs
              repeat (with_reducible refine And.intro (by omega) ?_)
              refine go_cond ?_
              try simp -implicitDefEqProofs
              repeat (with_reducible refine And.intro (by omega) ?_)
              first | with_reducible refine selP_ite h (by first | exact Iff.rfl | omega | (simp; done) | (simp [Arr3U8.eqi, Arr2U8.eqi, Lattice.eqi, Edge.eqi, Pin.eqi]; done) | fail) ?_ ?_ | with_reducible refine selP_ite2 h (by first | exact Iff.rfl | omega | (simp; done) | (simp [Arr3U8.eqi, Arr2U8.eqi, Lattice.eqi, Edge.eqi, Pin.eqi]; done) | fail) ?_ ?_ | with_reducible refine selP_ite h (by first | (simp only [Arr3U8.eqi, Arr2U8.eqi, Lattice.eqi, Edge.eqi, Pin.eqi]; grind) | grind | fail) ?_ ?_ | with_reducible refine selP_ite2 h (by first | (simp only [Arr3U8.eqi, Arr2U8.eqi, Lattice.eqi, Edge.eqi, Pin.eqi]; grind) | grind | fail) ?_ ?_
              · intro c_46 p_46 h
                refine go_skip ?_
                refine go_seq ?_
                refine go_block ?_
                refine go_seq ?_
                refine go_reg ?_
                obtain ⟨⟨c_48, c_49⟩, h⟩ := chk_elim h
                have k_50 := toNat_lt c_48 c_49
                obtain ⟨w143_51, hc, h⟩ := bind_elim h
                try simp -implicitDefEqProofs [c_46, c_48, k_50]
                repeat (with_reducible refine And.intro (by omega) ?_)
                refine runC_t (link_ref18_Has hc) (by simp) ?_
                try simp -implicitDefEqProofs
                repeat (with_reducible refine And.intro (by omega) ?_)
                refine go_cond ?_
                try simp -implicitDefEqProofs
                repeat (with_reducible refine And.intro (by omega) ?_)
                first | with_reducible refine selP_ite h (by first | exact Iff.rfl | omega | (simp; done) | (simp; done) | fail) ?_ ?_ | with_reducible refine selP_ite2 h (by first | exact Iff.rfl | omega | (simp; done) | (simp [Arr3U8.eqi, Arr2U8.eqi, Lattice.eqi, Edge.eqi, Pin.eqi]; done) | fail) ?_ ?_ | with_reducible refine selP_ite h (by first | (simp only [Arr3U8.eqi, Arr2U8.eqi, Lattice.eqi, Edge.eqi, Pin.eqi]; grind) | grind | fail) ?_ ?_ | with_reducible refine selP_ite2 h (by first | (simp only [Arr3U8.eqi, Arr2U8.eqi, Lattice.eqi, Edge.eqi, Pin.eqi]; grind) | grind | fail) ?_ ?_
                · intro c_52 p_52 h
                  refine go_skip ?_
                  refine go_b ?_
                  refine go_reg ?_
                  obtain ⟨⟨c_54, c_55⟩, h⟩ := chk_elim h
                  try simp -implicitDefEqProofs [c_52, c_54, c_55]
                  repeat (with_reducible refine And.intro (by omega) ?_)
                  refine go_l ?_
                  exact hB _ _ (Option.some.inj h).symm (wkN_of 0 [] (by simp) (by simp) (by simp) (by simp) (by simp))
                · intro c_52 p_52 h
                  have q_52 := eq_false_of_ne_true c_52
                  refine go_seq ?_
                  refine go_reg ?_
                  try simp -implicitDefEqProofs [p_52]
                  repeat (with_reducible refine And.intro (by omega) ?_)
                  obtain rfl := hR _ (Option.some.inj h).symm
                  try dsimp only at hn_44
                  have h := hn_44
                  obtain rfl := Option.some.inj h
                  refine go_ret ?_
                  simp -implicitDefEqProofs
              · intro c_46 p_46 h
                refine go_exit ?_
                simp -implicitDefEqProofs
                exact hE _ _ (Option.some.inj h).symm (wkN_of 0 [] (by simp [c_46]) (by simp) (by simp) (by simp) (by simp))
        · intro v E h hJ
          obtain ⟨w111_41, hc, h⟩ := bind_elim h
          try simp -implicitDefEqProofs
          repeat (with_reducible refine And.intro (by omega) ?_)
          refine runC_t (link_ref18_SameEdges hc) (by simp) ?_
          try simp -implicitDefEqProofs
          repeat (with_reducible refine And.intro (by omega) ?_)
          first | with_reducible refine selP_ite h (by first | exact Iff.rfl | omega | (simp; done) | (simp [Arr3U8.eqi, Arr2U8.eqi, Lattice.eqi, Edge.eqi, Pin.eqi]; done) | fail) ?_ ?_ | with_reducible refine selP_ite2 h (by first | exact Iff.rfl | omega | (simp; done) | (simp [Arr3U8.eqi, Arr2U8.eqi, Lattice.eqi, Edge.eqi, Pin.eqi]; done) | fail) ?_ ?_ | with_reducible refine selP_ite h (by first | (simp only [Arr3U8.eqi, Arr2U8.eqi, Lattice.eqi, Edge.eqi, Pin.eqi]; grind) | grind | fail) ?_ ?_ | with_reducible refine selP_ite2 h (by first | (simp only [Arr3U8.eqi, Arr2U8.eqi, Lattice.eqi, Edge.eqi, Pin.eqi]; grind) | grind | fail) ?_ ?_
          · intro c_42 p_42 h
            try simp -implicitDefEqProofs [c_42]
            repeat (with_reducible refine And.intro (by omega) ?_)
            refine go_l ?_
            obtain rfl := Option.some.inj h
            exact hJ _ (wkN_of 0 [] (by simp [p_7]) (by simp) (by simp) (by simp) (by simp))
          · intro c_42 p_42 h
            have q_42 := eq_false_of_ne_true c_42
            try simp -implicitDefEqProofs [q_42]
            repeat (with_reducible refine And.intro (by omega) ?_)
            refine go_l ?_
            obtain rfl := Option.some.inj h
            exact hJ _ (wkN_of 0 [] (by simp [p_7]) (by simp) (by simp) (by simp) (by simp))
    · rintro ⟨v10__18, v11__19, v12__20⟩ o B' E' h hB hE hR
      simp only [law18_PinSegments_L1] at h
      simp -implicitDefEqProofs
      refine go_seq ?_
      refine go_seq ?_
      refine go_reg ?_
      try simp -implicitDefEqProofs
      repeat (with_reducible refine And.intro (by omega) ?_)
      refine go_cond ?_
      try simp -implicitDefEqProofs
      repeat (with_reducible refine And.intro (by omega) ?_)
      first | with_reducible refine selP_ite h (by first | exact Iff.rfl | omega | (simp; done) | (simp [Arr3U8.eqi, Arr2U8.eqi, Lattice.eqi, Edge.eqi, Pin.eqi]; done) | fail) ?_ ?_ | with_reducible refine selP_ite2 h (by first | exact Iff.rfl | omega | (simp; done) | (simp [Arr3U8.eqi, Arr2U8.eqi, Lattice.eqi, Edge.eqi, Pin.eqi]; done) | fail) ?_ ?_ | with_reducible refine selP_ite h (by first | (simp only [Arr3U8.eqi, Arr2U8.eqi, Lattice.eqi, Edge.eqi, Pin.eqi]; grind) | grind | fail) ?_ ?_ | with_reducible refine selP_ite2 h (by first | (simp only [Arr3U8.eqi, Arr2U8.eqi, Lattice.eqi, Edge.eqi, Pin.eqi]; grind) | grind | fail) ?_ ?_
      · intro c_23 p_23 h
        refine go_skip ?_
        refine go_seq ?_
        refine go_block ?_
        refine go_seq ?_
        refine go_reg ?_
        obtain ⟨⟨c_25, c_26⟩, h⟩ := chk_elim h
        have k_27 := toNat_lt c_25 c_26
        obtain ⟨w72_28, hc, h⟩ := bind_elim h
        try simp -implicitDefEqProofs [c_23, c_26, k_27]
        repeat (with_reducible refine And.intro (by omega) ?_)
        refine runC_t (link_pin_Put hc) (by simp) ?_
        try simp -implicitDefEqProofs
        repeat (with_reducible refine And.intro (by omega) ?_)
        refine go_seq ?_
        refine go_reg ?_
        obtain ⟨w89_29, hc, h⟩ := bind_elim h
        try simp -implicitDefEqProofs [c_23, c_26, k_27]
        repeat (with_reducible refine And.intro (by omega) ?_)
        refine runC_t (link_pin_Put hc) (by simp) ?_
        try simp -implicitDefEqProofs
        repeat (with_reducible refine And.intro (by omega) ?_)
        refine go_seq ?_
        refine go_seq ?_
        refine go_reg ?_
        refine run_join h [⟨.b, .d, .e⟩, ⟨.b, .d, .f⟩, ⟨.b, .d, .g⟩, ⟨.b, .d, .h⟩, ⟨.b, .e, .a⟩, ⟨.b, .e, .b⟩] (fun v97_30 => [(⟨.b, .e, .b⟩, .v (.bool v97_30))]) (fun v97_30 => [[.v (.int .u8 (x1.x0.toNat : Int)), .v (.int .u8 (x1.x1.toNat : Int))], [.v (.int .i64 w28_5.N), .sl 4 (mp cEdge w28_5.Edges) .none]]) (fun v97_30 => []) (by repeat (first | exact soft_c | refine soft_b ?_)) ?_ ?_
        · rintro v97_30 h
          try dsimp only at h
          try simp -implicitDefEqProofs
          refine go_cond ?_
          try simp -implicitDefEqProofs
          repeat (with_reducible refine And.intro (by omega) ?_)
          first | with_reducible refine selP_ite h (by first | exact Iff.rfl | omega | (simp; done) | (simp [Arr3U8.eqi, Arr2U8.eqi, Lattice.eqi, Edge.eqi, Pin.eqi]; done) | fail) ?_ ?_ | with_reducible refine selP_ite2 h (by first | exact Iff.rfl | omega | (simp; done) | (simp [Arr3U8.eqi, Arr2U8.eqi, Lattice.eqi, Edge.eqi, Pin.eqi]; done) | fail) ?_ ?_ | with_reducible refine selP_ite h (by first | (simp only [Arr3U8.eqi, Arr2U8.eqi, Lattice.eqi, Edge.eqi, Pin.eqi]; grind) | grind | fail) ?_ ?_ | with_reducible refine selP_ite2 h (by first | (simp only [Arr3U8.eqi, Arr2U8.eqi, Lattice.eqi, Edge.eqi, Pin.eqi]; grind) | grind | fail) ?_ ?_
          · intro c_33 p_33 h
            refine go_seq ?_
            refine go_reg ?_
            try simp -implicitDefEqProofs [c_33]
            repeat (with_reducible refine And.intro (by omega) ?_)
            obtain rfl := hR _ (Option.some.inj h).symm
            try dsimp only at hn_17
            have h := hn_17
            obtain rfl := Option.some.inj h
            refine go_ret ?_
            simp -implicitDefEqProofs
          · intro c_33 p_33 h
            have q_33 := eq_false_of_ne_true c_33
            refine go_skip ?_
            refine go_reg ?_
            try simp -implicitDefEqProofs [q_33]
            repeat (with_reducible refine And.intro (by omega) ?_)
            refine go_b ?_
            refine go_reg ?_
            obtain ⟨⟨c_35, c_36⟩, h⟩ := chk_elim h
            try simp -implicitDefEqProofs [c_35, c_36]
            repeat (with_reducible refine And.intro (by omega) ?_)
            refine go_l ?_
            exact hB _ _ (Option.some.inj h).symm (wkN_of 0 [] (by simp) (by simp) (by simp) (by simp) (by simp))
        · intro v E h hJ
          try simp -implicitDefEqProofs
          repeat (with_reducible refine And.intro (by omega) ?_)
          first | with_reducible refine selP_ite h (by first | exact Iff.rfl | omega | (simp; done) | (simp [Arr3U8.eqi, Arr2U8.eqi, Lattice.eqi, Edge.eqi, Pin.eqi]; done) | fail) ?_ ?_ | with_reducible refine selP_ite2 h (by first | exact Iff.rfl | omega | (simp; done) | (simp [Arr3U8.eqi, Arr2U8.eqi, Lattice.eqi, Edge.eqi, Pin.eqi]; done) | fail) ?_ ?_ | with_reducible refine selP_ite h (by first | (simp only [Arr3U8.eqi, Arr2U8.eqi, Lattice.eqi, Edge.eqi, Pin.eqi]; grind) | grind | fail) ?_ ?_ | with_reducible refine selP_ite2 h (by first | (simp only [Arr3U8.eqi, Arr2U8.eqi, Lattice.eqi, Edge.eqi, Pin.eqi]; grind) | grind | fail) ?_ ?_
          · intro c_32 p_32 h
            try simp -implicitDefEqProofs [c_32]
            repeat (with_reducible refine And.intro (by omega) ?_)
            refine go_l ?_
            obtain rfl := Option.some.inj h
            exact hJ _ (wkN_of 0 [] (by simp [c_32]) (by simp [c_32]) (by simp) (by simp) (by simp))
          · intro c_32 p_32 h
            try simp -implicitDefEqProofs [c_32]
            repeat (with_reducible refine And.intro (by omega) ?_)
            refine go_l ?_
            obtain rfl := Option.some.inj h
            exact hJ _ (wkN_of 0 [] (by simp) (by simp) (by simp) (by simp) (by simp))
      · intro c_23 p_23 h
        refine go_exit ?_
        simp -implicitDefEqProofs
        exact hE _ _ (Option.some.inj h).symm (wkN_of 0 [] (by simp [c_23]) (by simp) (by simp) (by simp) (by simp))
end Go.Proofs.Ytdkancgcefklfaa
