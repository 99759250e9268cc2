/-
  Typed functions that compute what the functions 9, 3, 4, 5, 6, 7 of the program compute, and that they do.
-/
import Derived.Test.YtdkancgcefklfaaK8
namespace Go.Proofs.Ytdkancgcefklfaa
open Go.RowKit
structure Arr4I8 where
  x0 : Int
  x1 : Int
  x2 : Int
  x3 : Int
  deriving DecidableEq, Inhabited
theorem Arr4I8.eqi (a b : Arr4I8) : a = b ↔ a.x0 = b.x0 ∧ a.x1 = b.x1 ∧ a.x2 = b.x2 ∧ a.x3 = b.x3 := by
  cases a; cases b; simp
def cArr4I8 (x : Arr4I8) : List PV := [.v (.int .i8 x.x0), .v (.int .i8 x.x1), .v (.int .i8 x.x2), .v (.int .i8 x.x3)]
@[simp] theorem cArr4I8_eq (x : Arr4I8) : cArr4I8 x = [.v (.int .i8 x.x0), .v (.int .i8 x.x1), .v (.int .i8 x.x2), .v (.int .i8 x.x3)] := rfl
instance : CSz cArr4I8 4 := ⟨fun _ => rfl⟩
instance : CSh cArr4I8 := ⟨fun _ => rfl, fun _ _ _ _ => by simp [wkL], fun _ p h => by simp at h; rcases h with rfl | rfl | rfl | rfl <;> rfl⟩
structure Arr2U8 where
  x0 : UInt8
  x1 : UInt8
  deriving DecidableEq, Inhabited
theorem Arr2U8.eqi (a b : Arr2U8) : a = b ↔ a.x0 = b.x0 ∧ a.x1 = b.x1 := by
  cases a; cases b; simp
def cArr2U8 (x : Arr2U8) : List PV := [.v (.int .u8 (x.x0.toNat : Int)), .v (.int .u8 (x.x1.toNat : Int))]
@[simp] theorem cArr2U8_eq (x : Arr2U8) : cArr2U8 x = [.v (.int .u8 (x.x0.toNat : Int)), .v (.int .u8 (x.x1.toNat : Int))] := rfl
instance : CSz cArr2U8 2 := ⟨fun _ => rfl⟩
instance : CSh cArr2U8 := ⟨fun _ => rfl, fun _ _ _ _ => by simp [wkL], fun _ p h => by simp at h; rcases h with rfl | rfl <;> rfl⟩
def law18_sanity : Option Bool :=
  (pin_Put [(⟨0, 2, 5⟩ : Pin), (⟨3, 6, (-1)⟩ : Pin)] (⟨2, 4, (-1)⟩ : Pin) 6).bind fun w23_1 =>
  (pin_Put [] (⟨4, 4, (-1)⟩ : Pin) 6).bind fun w28_2 =>
  (pin_Put [(⟨3, 6, (-1)⟩ : Pin)] (⟨0, 2, 5⟩ : Pin) 5).bind fun w35_3 =>
  (pin_Restrict (⟨2, [(⟨0, 1, 0, 0⟩ : Edge), (⟨0, 2, 0, 0⟩ : Edge), (⟨1, 2, 0, 0⟩ : Edge)]⟩ : Lattice) [(⟨0, 2, (-1)⟩ : Pin)]).bind fun w46_4 =>
  (
    (
      if w23_1.2 = 0 then (
        (ref18_Same w23_1.1 [(⟨0, 2, 5⟩ : Pin), (⟨2, 4, (-1)⟩ : Pin)]).bind fun w54_8 =>
        if w54_8 = true then (
          if w28_2.2 = 180 then (
            if w35_3.2 = 180 then (
              (ref18_SameEdges w46_4 (⟨2, [(⟨0, 2, 0, 0⟩ : Edge)]⟩ : Lattice)).bind fun w69_12 =>
              some w69_12
            ) else (
              some false
            )
          ) else (
            some false
          )
        ) else (
          some false
        )
      ) else (
        some false
      )
    : Option (Bool))
  ).bind fun v12_5 =>
  (
    (
      (pin_Insert [(⟨0, 2, 5⟩ : Pin), (⟨2, 4, (-1)⟩ : Pin)] 2).bind fun w74_15 =>
      (ref18_Same w74_15 [(⟨0, 2, 5⟩ : Pin), (⟨3, 5, (-1)⟩ : Pin)]).bind fun w78_16 =>
      if w78_16 = true then (
        (pin_Insert [(⟨1, 3, (-1)⟩ : Pin)] 2).bind fun w82_18 =>
        some (decide ((w82_18.length : Int) = 0))
      ) else (
        some false
      )
    : Option (Bool))
  ).bind fun v13_13 =>
  (
    (
      (pin_Delete [(⟨0, 2, 5⟩ : Pin), (⟨3, 5, (-1)⟩ : Pin)] 2).bind fun w89_21 =>
      (ref18_Same w89_21 [(⟨0, 2, 5⟩ : Pin), (⟨2, 4, (-1)⟩ : Pin)]).bind fun w93_22 =>
      if w93_22 = true then (
        (pin_Delete [(⟨2, 4, (-1)⟩ : Pin)] 2).bind fun w97_24 =>
        some (decide ((w97_24.length : Int) = 0))
      ) else (
        some false
      )
    : Option (Bool))
  ).bind fun v14_19 =>
  (
    (
      if v12_5 = true then (
        if v13_13 = true then (
          if v14_19 = true then (
            (pin_Valid [(⟨0, 2, 5⟩ : Pin), (⟨3, 6, (-1)⟩ : Pin)] 6).bind fun w112_30 =>
            if w112_30 = true then (
              (pin_Valid [(⟨3, 6, (-1)⟩ : Pin), (⟨0, 2, 5⟩ : Pin)] 6).bind fun w118_32 =>
              if w118_32 = true then (
                some false
              ) else (
                (pin_Valid [] 41).bind fun w122_34 =>
                some (!w122_34)
              )
            ) else (
              some false
            )
          ) else (
            some false
          )
        ) else (
          some false
        )
      ) else (
        some false
      )
    : Option (Bool))
  ).bind fun v0_25 =>
  some v0_25
theorem link_law18_sanity {r : Bool} (h : law18_sanity  = some r) : PCalls Try.prog 9 [] (.v (.bool r)) := by
  unfold law18_sanity at h
  refine pcalls is9 na9 ?_
  try simp -implicitDefEqProofs
  refine go_seq ?_
  refine go_reg ?_
  try simp -implicitDefEqProofs
  repeat (with_reducible refine And.intro (by omega) ?_)
  refine go_seq ?_
  refine go_reg ?_
  try simp -implicitDefEqProofs
  repeat (with_reducible refine And.intro (by omega) ?_)
  refine go_seq ?_
  refine go_reg ?_
  obtain ⟨w23_1, hc, h⟩ := bind_elim h
  try simp -implicitDefEqProofs
  repeat (with_reducible refine And.intro (by omega) ?_)
  refine runC_t (link_pin_Put hc) (by simp) ?_
  try simp -implicitDefEqProofs
  repeat (with_reducible refine And.intro (by omega) ?_)
  refine go_seq ?_
  refine go_reg ?_
  obtain ⟨w28_2, hc, h⟩ := bind_elim h
  try simp -implicitDefEqProofs
  repeat (with_reducible refine And.intro (by omega) ?_)
  refine runC_t (link_pin_Put hc) (by simp) ?_
  try simp -implicitDefEqProofs
  repeat (with_reducible refine And.intro (by omega) ?_)
  refine go_seq ?_
  refine go_reg ?_
  obtain ⟨w35_3, hc, h⟩ := bind_elim h
  try simp -implicitDefEqProofs
  repeat (with_reducible refine And.intro (by omega) ?_)
  refine runC_t (link_pin_Put hc) (by simp) ?_
  try simp -implicitDefEqProofs
  repeat (with_reducible refine And.intro (by omega) ?_)
  refine go_seq ?_
  refine go_reg ?_
  try simp -implicitDefEqProofs
  repeat (with_reducible refine And.intro (by omega) ?_)
  refine go_seq ?_
  refine go_reg ?_
  obtain ⟨w46_4, hc, h⟩ := bind_elim h
  try simp -implicitDefEqProofs
  repeat (with_reducible refine And.intro (by omega) ?_)
  refine runC_t (link_pin_Restrict hc) (by simp) ?_
  try simp -implicitDefEqProofs
  repeat (with_reducible refine And.intro (by omega) ?_)
  refine go_seq ?_
  refine go_reg ?_
  refine run_join h [⟨.a, .b, .e⟩, ⟨.a, .f, .h⟩, ⟨.a, .g, .a⟩, ⟨.a, .g, .b⟩, ⟨.a, .g, .c⟩, ⟨.a, .g, .d⟩, ⟨.a, .g, .e⟩, ⟨.a, .g, .f⟩, ⟨.a, .g, .g⟩, ⟨.a, .g, .h⟩, ⟨.a, .h, .a⟩, ⟨.a, .h, .b⟩, ⟨.a, .h, .c⟩, ⟨.a, .h, .d⟩, ⟨.a, .h, .e⟩, ⟨.a, .h, .f⟩, ⟨.a, .h, .g⟩, ⟨.a, .h, .h⟩, ⟨.b, .a, .a⟩, ⟨.b, .a, .b⟩, ⟨.b, .a, .c⟩, ⟨.b, .a, .d⟩, ⟨.b, .a, .e⟩, ⟨.b, .a, .f⟩, ⟨.b, .a, .g⟩] (fun v12_5 => [(⟨.a, .b, .e⟩, .v (.bool v12_5))]) (fun v12_5 => [[.v (.int .i64 0), .v (.int .i64 2), .v (.int .i64 5)], [.v (.int .i64 3), .v (.int .i64 6), .v (.int .i64 (-1))], [.v (.int .i64 2), .v (.int .i64 4), .v (.int .i64 (-1))], [.v (.int .i64 2), .sl 4 (mp cEdge [(⟨0, 1, 0, 0⟩ : Edge), (⟨0, 2, 0, 0⟩ : Edge), (⟨1, 2, 0, 0⟩ : Edge)]) .full], [.v (.int .i64 w46_4.N), .sl 4 (mp cEdge w46_4.Edges) .none]]) (fun v12_5 => []) (by repeat (first | exact soft_c | refine soft_b ?_)) ?_ ?_
  · rintro v12_5 h
    try dsimp only at h
    try simp -implicitDefEqProofs
    refine go_seq ?_
    refine go_reg ?_
    refine run_join h [⟨.a, .b, .f⟩, ⟨.b, .a, .h⟩, ⟨.b, .b, .a⟩, ⟨.b, .b, .b⟩, ⟨.b, .b, .c⟩, ⟨.b, .b, .d⟩, ⟨.b, .b, .e⟩, ⟨.b, .b, .f⟩, ⟨.b, .b, .g⟩, ⟨.b, .b, .h⟩, ⟨.b, .c, .a⟩, ⟨.b, .c, .b⟩, ⟨.b, .c, .c⟩, ⟨.b, .c, .d⟩, ⟨.b, .c, .e⟩, ⟨.b, .c, .f⟩] (fun v13_13 => [(⟨.a, .b, .f⟩, .v (.bool v13_13))]) (fun v13_13 => [[.v (.int .i64 0), .v (.int .i64 2), .v (.int .i64 5)], [.v (.int .i64 3), .v (.int .i64 6), .v (.int .i64 (-1))], [.v (.int .i64 2), .v (.int .i64 4), .v (.int .i64 (-1))], [.v (.int .i64 2), .sl 4 (mp cEdge [(⟨0, 1, 0, 0⟩ : Edge), (⟨0, 2, 0, 0⟩ : Edge), (⟨1, 2, 0, 0⟩ : Edge)]) .full], [.v (.int .i64 w46_4.N), .sl 4 (mp cEdge w46_4.Edges) .none]]) (fun v13_13 => []) (by repeat (first | exact soft_c | refine soft_b ?_)) ?_ ?_
    · rintro v13_13 h
      try dsimp only at h
      try simp -implicitDefEqProofs
      refine go_seq ?_
      refine go_reg ?_
      refine run_join h [⟨.a, .b, .g⟩, ⟨.b, .c, .g⟩, ⟨.b, .c, .h⟩, ⟨.b, .d, .a⟩, ⟨.b, .d, .b⟩, ⟨.b, .d, .c⟩, ⟨.b, .d, .d⟩, ⟨.b, .d, .e⟩, ⟨.b, .d, .f⟩, ⟨.b, .d, .g⟩, ⟨.b, .d, .h⟩, ⟨.b, .e, .a⟩, ⟨.b, .e, .b⟩, ⟨.b, .e, .c⟩, ⟨.b, .e, .d⟩, ⟨.b, .e, .e⟩] (fun v14_19 => [(⟨.a, .b, .g⟩, .v (.bool v14_19))]) (fun v14_19 => [[.v (.int .i64 0), .v (.int .i64 2), .v (.int .i64 5)], [.v (.int .i64 3), .v (.int .i64 6), .v (.int .i64 (-1))], [.v (.int .i64 2), .v (.int .i64 4), .v (.int .i64 (-1))], [.v (.int .i64 2), .sl 4 (mp cEdge [(⟨0, 1, 0, 0⟩ : Edge), (⟨0, 2, 0, 0⟩ : Edge), (⟨1, 2, 0, 0⟩ : Edge)]) .full], [.v (.int .i64 w46_4.N), .sl 4 (mp cEdge w46_4.Edges) .none]]) (fun v14_19 => []) (by repeat (first | exact soft_c | refine soft_b ?_)) ?_ ?_
      · rintro v14_19 h
        try dsimp only at h
        try simp -implicitDefEqProofs
        refine go_seq ?_
        refine go_reg ?_
        refine run_join h [⟨.a, .a, .a⟩, ⟨.b, .e, .f⟩, ⟨.b, .e, .g⟩, ⟨.b, .e, .h⟩, ⟨.b, .f, .a⟩, ⟨.b, .f, .b⟩, ⟨.b, .f, .c⟩, ⟨.b, .f, .d⟩, ⟨.b, .f, .e⟩, ⟨.b, .f, .f⟩, ⟨.b, .f, .g⟩, ⟨.b, .f, .h⟩, ⟨.b, .g, .a⟩, ⟨.b, .g, .b⟩, ⟨.b, .g, .c⟩, ⟨.b, .g, .d⟩, ⟨.b, .g, .e⟩, ⟨.b, .g, .f⟩, ⟨.b, .g, .g⟩, ⟨.b, .g, .h⟩, ⟨.b, .h, .a⟩, ⟨.b, .h, .b⟩, ⟨.b, .h, .c⟩, ⟨.b, .h, .d⟩, ⟨.b, .h, .e⟩] (fun v0_25 => [(⟨.a, .a, .a⟩, .v (.bool v0_25))]) (fun v0_25 => [[.v (.int .i64 0), .v (.int .i64 2), .v (.int .i64 5)], [.v (.int .i64 3), .v (.int .i64 6), .v (.int .i64 (-1))], [.v (.int .i64 2), .v (.int .i64 4), .v (.int .i64 (-1))], [.v (.int .i64 2), .sl 4 (mp cEdge [(⟨0, 1, 0, 0⟩ : Edge), (⟨0, 2, 0, 0⟩ : Edge), (⟨1, 2, 0, 0⟩ : Edge)]) .full], [.v (.int .i64 w46_4.N), .sl 4 (mp cEdge w46_4.Edges) .none]]) (fun v0_25 => []) (by repeat (first | exact soft_c | refine soft_b ?_)) ?_ ?_
        · rintro v0_25 h
          try dsimp only at h
          try simp -implicitDefEqProofs
          obtain rfl := Option.some.inj h
          refine go_ret ?_
          simp -implicitDefEqProofs
        · intro v E h hJ
          try simp -implicitDefEqProofs
          repeat (with_reducible refine And.intro (by omega) ?_)
          first | with_reducible refine selP_ite h (by first | exact Iff.rfl | omega | (simp; done) | (simp [Pin.eqi, Edge.eqi, Lattice.eqi, Arr3U8.eqi, Arr4I8.eqi, Arr2U8.eqi]; done) | fail) ?_ ?_ | with_reducible refine selP_ite2 h (by first | exact Iff.rfl | omega | (simp; done) | (simp [Pin.eqi, Edge.eqi, Lattice.eqi, Arr3U8.eqi, Arr4I8.eqi, Arr2U8.eqi]; done) | fail) ?_ ?_ | with_reducible refine selP_ite h (by first | (simp only [Pin.eqi, Edge.eqi, Lattice.eqi, Arr3U8.eqi, Arr4I8.eqi, Arr2U8.eqi]; grind) | grind | fail) ?_ ?_ | with_reducible refine selP_ite2 h (by first | (simp only [Pin.eqi, Edge.eqi, Lattice.eqi, Arr3U8.eqi, Arr4I8.eqi, Arr2U8.eqi]; grind) | grind | fail) ?_ ?_
          · intro c_27 p_27 h
            try simp -implicitDefEqProofs [c_27]
            repeat (with_reducible refine And.intro (by omega) ?_)
            first | with_reducible refine selP_ite h (by first | exact Iff.rfl | omega | (simp; done) | (simp [Pin.eqi, Edge.eqi, Lattice.eqi, Arr3U8.eqi, Arr4I8.eqi, Arr2U8.eqi]; done) | fail) ?_ ?_ | with_reducible refine selP_ite2 h (by first | exact Iff.rfl | omega | (simp; done) | (simp [Pin.eqi, Edge.eqi, Lattice.eqi, Arr3U8.eqi, Arr4I8.eqi, Arr2U8.eqi]; done) | fail) ?_ ?_ | with_reducible refine selP_ite h (by first | (simp only [Pin.eqi, Edge.eqi, Lattice.eqi, Arr3U8.eqi, Arr4I8.eqi, Arr2U8.eqi]; grind) | grind | fail) ?_ ?_ | with_reducible refine selP_ite2 h (by first | (simp only [Pin.eqi, Edge.eqi, Lattice.eqi, Arr3U8.eqi, Arr4I8.eqi, Arr2U8.eqi]; grind) | grind | fail) ?_ ?_
            · intro c_28 p_28 h
              try simp -implicitDefEqProofs [c_28]
              repeat (with_reducible refine And.intro (by omega) ?_)
              first | with_reducible refine selP_ite h (by first | exact Iff.rfl | omega | (simp; done) | (simp [Pin.eqi, Edge.eqi, Lattice.eqi, Arr3U8.eqi, Arr4I8.eqi, Arr2U8.eqi]; done) | fail) ?_ ?_ | with_reducible refine selP_ite2 h (by first | exact Iff.rfl | omega | (simp; done) | (simp [Pin.eqi, Edge.eqi, Lattice.eqi, Arr3U8.eqi, Arr4I8.eqi, Arr2U8.eqi]; done) | fail) ?_ ?_ | with_reducible refine selP_ite h (by first | (simp only [Pin.eqi, Edge.eqi, Lattice.eqi, Arr3U8.eqi, Arr4I8.eqi, Arr2U8.eqi]; grind) | grind | fail) ?_ ?_ | with_reducible refine selP_ite2 h (by first | (simp only [Pin.eqi, Edge.eqi, Lattice.eqi, Arr3U8.eqi, Arr4I8.eqi, Arr2U8.eqi]; grind) | grind | fail) ?_ ?_
              · intro c_29 p_29 h
                obtain ⟨w112_30, hc, h⟩ := bind_elim h
                try simp -implicitDefEqProofs [c_29]
                repeat (with_reducible refine And.intro (by omega) ?_)
                refine runC_t (link_pin_Valid hc) (by simp) ?_
                try simp -implicitDefEqProofs
                repeat (with_reducible refine And.intro (by omega) ?_)
                first | with_reducible refine selP_ite h (by first | exact Iff.rfl | omega | (simp; done) | (simp [Pin.eqi, Edge.eqi, Lattice.eqi, Arr3U8.eqi, Arr4I8.eqi, Arr2U8.eqi]; done) | fail) ?_ ?_ | with_reducible refine selP_ite2 h (by first | exact Iff.rfl | omega | (simp; done) | (simp [Pin.eqi, Edge.eqi, Lattice.eqi, Arr3U8.eqi, Arr4I8.eqi, Arr2U8.eqi]; done) | fail) ?_ ?_ | with_reducible refine selP_ite h (by first | (simp only [Pin.eqi, Edge.eqi, Lattice.eqi, Arr3U8.eqi, Arr4I8.eqi, Arr2U8.eqi]; grind) | grind | fail) ?_ ?_ | with_reducible refine selP_ite2 h (by first | (simp only [Pin.eqi, Edge.eqi, Lattice.eqi, Arr3U8.eqi, Arr4I8.eqi, Arr2U8.eqi]; grind) | grind | fail) ?_ ?_
                · intro c_31 p_31 h
                  obtain ⟨w118_32, hc, h⟩ := bind_elim h
                  try simp -implicitDefEqProofs [c_31]
                  repeat (with_reducible refine And.intro (by omega) ?_)
                  refine runC_t (link_pin_Valid hc) (by simp) ?_
                  try simp -implicitDefEqProofs
                  repeat (with_reducible refine And.intro (by omega) ?_)
                  first | with_reducible refine selP_ite h (by first | exact Iff.rfl | omega | (simp; done) | (simp; done) | fail) ?_ ?_ | with_reducible refine selP_ite2 h (by first | exact Iff.rfl | omega | (simp; done) | (simp [Pin.eqi, Edge.eqi, Lattice.eqi, Arr3U8.eqi, Arr4I8.eqi, Arr2U8.eqi]; done) | fail) ?_ ?_ | with_reducible refine selP_ite h (by first | (simp only [Pin.eqi, Edge.eqi, Lattice.eqi, Arr3U8.eqi, Arr4I8.eqi, Arr2U8.eqi]; grind) | grind | fail) ?_ ?_ | with_reducible refine selP_ite2 h (by first | (simp only [Pin.eqi, Edge.eqi, Lattice.eqi, Arr3U8.eqi, Arr4I8.eqi, Arr2U8.eqi]; grind) | grind | fail) ?_ ?_
                  · intro c_33 p_33 h
                    try simp -implicitDefEqProofs [c_33]
                    repeat (with_reducible refine And.intro (by omega) ?_)
                    refine go_l ?_
                    obtain rfl := Option.some.inj h
                    exact hJ _ (wkN_of 0 [] (by simp [c_27, c_28, c_29]) (by simp [c_27, c_28, c_29]) (by simp) (by simp) (by simp))
                  · intro c_33 p_33 h
                    have q_33 := eq_false_of_ne_true c_33
                    obtain ⟨w122_34, hc, h⟩ := bind_elim h
                    try simp -implicitDefEqProofs [p_33]
                    repeat (with_reducible refine And.intro (by omega) ?_)
                    refine runC_t (link_pin_Valid hc) (by simp) ?_
                    try simp -implicitDefEqProofs
                    repeat (with_reducible refine And.intro (by omega) ?_)
                    refine go_l ?_
                    obtain rfl := Option.some.inj h
                    exact hJ _ (wkN_of 0 [] (by simp [c_27, c_28, c_29]) (by simp [c_27, c_28, c_29]) (by simp) (by simp) (by simp))
                · intro c_31 p_31 h
                  have q_31 := eq_false_of_ne_true c_31
                  try simp -implicitDefEqProofs [q_31]
                  repeat (with_reducible refine And.intro (by omega) ?_)
                  refine go_l ?_
                  obtain rfl := Option.some.inj h
                  exact hJ _ (wkN_of 0 [] (by simp [c_27, c_28, c_29]) (by simp [c_27, c_28, c_29]) (by simp) (by simp) (by simp))
              · intro c_29 p_29 h
                have q_29 := eq_false_of_ne_true c_29
                try simp -implicitDefEqProofs [q_29]
                repeat (with_reducible refine And.intro (by omega) ?_)
                refine go_l ?_
                obtain rfl := Option.some.inj h
                exact hJ _ (wkN_of 0 [] (by simp [c_27, c_28, c_29]) (by simp [c_27, c_28, c_29]) (by simp) (by simp) (by simp))
            · intro c_28 p_28 h
              have q_28 := eq_false_of_ne_true c_28
              try simp -implicitDefEqProofs [q_28]
              repeat (with_reducible refine And.intro (by omega) ?_)
              refine go_l ?_
              obtain rfl := Option.some.inj h
              exact hJ _ (wkN_of 0 [] (by simp [c_27, c_28]) (by simp [c_27, c_28]) (by simp) (by simp) (by simp))
          · intro c_27 p_27 h
            have q_27 := eq_false_of_ne_true c_27
            try simp -implicitDefEqProofs [q_27]
            repeat (with_reducible refine And.intro (by omega) ?_)
            refine go_l ?_
            obtain rfl := Option.some.inj h
            exact hJ _ (wkN_of 0 [] (by simp [c_27]) (by simp [c_27]) (by simp) (by simp) (by simp))
      · intro v E h hJ
        obtain ⟨w89_21, hc, h⟩ := bind_elim h
        try simp -implicitDefEqProofs
        repeat (with_reducible refine And.intro (by omega) ?_)
        refine runC_t (link_pin_Delete hc) (by simp) ?_
        obtain ⟨w93_22, hc, h⟩ := bind_elim h
        try simp -implicitDefEqProofs
        repeat (with_reducible refine And.intro (by omega) ?_)
        refine runC_t (link_ref18_Same hc) (by simp) ?_
        try simp -implicitDefEqProofs
        repeat (with_reducible refine And.intro (by omega) ?_)
        first | with_reducible refine selP_ite h (by first | exact Iff.rfl | omega | (simp; done) | (simp [Pin.eqi, Edge.eqi, Lattice.eqi, Arr3U8.eqi, Arr4I8.eqi, Arr2U8.eqi]; done) | fail) ?_ ?_ | with_reducible refine selP_ite2 h (by first | exact Iff.rfl | omega | (simp; done) | (simp [Pin.eqi, Edge.eqi, Lattice.eqi, Arr3U8.eqi, Arr4I8.eqi, Arr2U8.eqi]; done) | fail) ?_ ?_ | with_reducible refine selP_ite h (by first | (simp only [Pin.eqi, Edge.eqi, Lattice.eqi, Arr3U8.eqi, Arr4I8.eqi, Arr2U8.eqi]; grind) | grind | fail) ?_ ?_ | with_reducible refine selP_ite2 h (by first | (simp only [Pin.eqi, Edge.eqi, Lattice.eqi, Arr3U8.eqi, Arr4I8.eqi, Arr2U8.eqi]; grind) | grind | fail) ?_ ?_
        · intro c_23 p_23 h
          obtain ⟨w97_24, hc, h⟩ := bind_elim h
          try simp -implicitDefEqProofs [c_23]
          repeat (with_reducible refine And.intro (by omega) ?_)
          refine runC_t (link_pin_Delete hc) (by simp) ?_
          try simp -implicitDefEqProofs
          repeat (with_reducible refine And.intro (by omega) ?_)
          refine go_l ?_
          obtain rfl := Option.some.inj h
          exact hJ _ (wkN_of 0 [] (by simp) (by simp) (by simp) (by simp) (by simp))
        · intro c_23 p_23 h
          have q_23 := eq_false_of_ne_true c_23
          try simp -implicitDefEqProofs [q_23]
          repeat (with_reducible refine And.intro (by omega) ?_)
          refine go_l ?_
          obtain rfl := Option.some.inj h
          exact hJ _ (wkN_of 0 [] (by simp) (by simp) (by simp) (by simp) (by simp))
    · intro v E h hJ
      obtain ⟨w74_15, hc, h⟩ := bind_elim h
      try simp -implicitDefEqProofs
      repeat (with_reducible refine And.intro (by omega) ?_)
      refine runC_t (link_pin_Insert hc) (by simp) ?_
      obtain ⟨w78_16, hc, h⟩ := bind_elim h
      try simp -implicitDefEqProofs
      repeat (with_reducible refine And.intro (by omega) ?_)
      refine runC_t (link_ref18_Same hc) (by simp) ?_
      try simp -implicitDefEqProofs
      repeat (with_reducible refine And.intro (by omega) ?_)
      first | with_reducible refine selP_ite h (by first | exact Iff.rfl | omega | (simp; done) | (simp [Pin.eqi, Edge.eqi, Lattice.eqi, Arr3U8.eqi, Arr4I8.eqi, Arr2U8.eqi]; done) | fail) ?_ ?_ | with_reducible refine selP_ite2 h (by first | exact Iff.rfl | omega | (simp; done) | (simp [Pin.eqi, Edge.eqi, Lattice.eqi, Arr3U8.eqi, Arr4I8.eqi, Arr2U8.eqi]; done) | fail) ?_ ?_ | with_reducible refine selP_ite h (by first | (simp only [Pin.eqi, Edge.eqi, Lattice.eqi, Arr3U8.eqi, Arr4I8.eqi, Arr2U8.eqi]; grind) | grind | fail) ?_ ?_ | with_reducible refine selP_ite2 h (by first | (simp only [Pin.eqi, Edge.eqi, Lattice.eqi, Arr3U8.eqi, Arr4I8.eqi, Arr2U8.eqi]; grind) | grind | fail) ?_ ?_
      · intro c_17 p_17 h
        obtain ⟨w82_18, hc, h⟩ := bind_elim h
        try simp -implicitDefEqProofs [c_17]
        repeat (with_reducible refine And.intro (by omega) ?_)
        refine runC_t (link_pin_Insert hc) (by simp) ?_
        try simp -implicitDefEqProofs
        repeat (with_reducible refine And.intro (by omega) ?_)
        refine go_l ?_
        obtain rfl := Option.some.inj h
        exact hJ _ (wkN_of 0 [] (by simp) (by simp) (by simp) (by simp) (by simp))
      · intro c_17 p_17 h
        have q_17 := eq_false_of_ne_true c_17
        try simp -implicitDefEqProofs [q_17]
        repeat (with_reducible refine And.intro (by omega) ?_)
        refine go_l ?_
        obtain rfl := Option.some.inj h
        exact hJ _ (wkN_of 0 [] (by simp) (by simp) (by simp) (by simp) (by simp))
  · intro v E h hJ
    try simp -implicitDefEqProofs
    repeat (with_reducible refine And.intro (by omega) ?_)
    first | with_reducible refine selP_ite h (by first | exact Iff.rfl | omega | (simp; done) | (simp [Pin.eqi, Edge.eqi, Lattice.eqi, Arr3U8.eqi, Arr4I8.eqi, Arr2U8.eqi]; done) | fail) ?_ ?_ | with_reducible refine selP_ite2 h (by first | exact Iff.rfl | omega | (simp; done) | (simp [Pin.eqi, Edge.eqi, Lattice.eqi, Arr3U8.eqi, Arr4I8.eqi, Arr2U8.eqi]; done) | fail) ?_ ?_ | with_reducible refine selP_ite h (by first | (simp only [Pin.eqi, Edge.eqi, Lattice.eqi, Arr3U8.eqi, Arr4I8.eqi, Arr2U8.eqi]; grind) | grind | fail) ?_ ?_ | with_reducible refine selP_ite2 h (by first | (simp only [Pin.eqi, Edge.eqi, Lattice.eqi, Arr3U8.eqi, Arr4I8.eqi, Arr2U8.eqi]; grind) | grind | fail) ?_ ?_
    · intro c_7 p_7 h
      obtain ⟨w54_8, hc, h⟩ := bind_elim h
      try simp -implicitDefEqProofs [c_7]
      repeat (with_reducible refine And.intro (by omega) ?_)
      refine runC_t (link_ref18_Same hc) (by simp) ?_
      try simp -implicitDefEqProofs
      repeat (with_reducible refine And.intro (by omega) ?_)
      first | with_reducible refine selP_ite h (by first | exact Iff.rfl | omega | (simp; done) | (simp [Pin.eqi, Edge.eqi, Lattice.eqi, Arr3U8.eqi, Arr4I8.eqi, Arr2U8.eqi]; done) | fail) ?_ ?_ | with_reducible refine selP_ite2 h (by first | exact Iff.rfl | omega | (simp; done) | (simp [Pin.eqi, Edge.eqi, Lattice.eqi, Arr3U8.eqi, Arr4I8.eqi, Arr2U8.eqi]; done) | fail) ?_ ?_ | with_reducible refine selP_ite h (by first | (simp only [Pin.eqi, Edge.eqi, Lattice.eqi, Arr3U8.eqi, Arr4I8.eqi, Arr2U8.eqi]; grind) | grind | fail) ?_ ?_ | with_reducible refine selP_ite2 h (by first | (simp only [Pin.eqi, Edge.eqi, Lattice.eqi, Arr3U8.eqi, Arr4I8.eqi, Arr2U8.eqi]; grind) | grind | fail) ?_ ?_
      · intro c_9 p_9 h
        try simp -implicitDefEqProofs [c_9]
        repeat (with_reducible refine And.intro (by omega) ?_)
        first | with_reducible refine selP_ite h (by first | exact Iff.rfl | omega | (simp; done) | (simp [Pin.eqi, Edge.eqi, Lattice.eqi, Arr3U8.eqi, Arr4I8.eqi, Arr2U8.eqi]; done) | fail) ?_ ?_ | with_reducible refine selP_ite2 h (by first | exact Iff.rfl | omega | (simp; done) | (simp [Pin.eqi, Edge.eqi, Lattice.eqi, Arr3U8.eqi, Arr4I8.eqi, Arr2U8.eqi]; done) | fail) ?_ ?_ | with_reducible refine selP_ite h (by first | (simp only [Pin.eqi, Edge.eqi, Lattice.eqi, Arr3U8.eqi, Arr4I8.eqi, Arr2U8.eqi]; grind) | grind | fail) ?_ ?_ | with_reducible refine selP_ite2 h (by first | (simp only [Pin.eqi, Edge.eqi, Lattice.eqi, Arr3U8.eqi, Arr4I8.eqi, Arr2U8.eqi]; grind) | grind | fail) ?_ ?_
        · intro c_10 p_10 h
          try simp -implicitDefEqProofs [c_10]
          repeat (with_reducible refine And.intro (by omega) ?_)
          first | with_reducible refine selP_ite h (by first | exact Iff.rfl | omega | (simp; done) | (simp [Pin.eqi, Edge.eqi, Lattice.eqi, Arr3U8.eqi, Arr4I8.eqi, Arr2U8.eqi]; done) | fail) ?_ ?_ | with_reducible refine selP_ite2 h (by first | exact Iff.rfl | omega | (simp; done) | (simp [Pin.eqi, Edge.eqi, Lattice.eqi, Arr3U8.eqi, Arr4I8.eqi, Arr2U8.eqi]; done) | fail) ?_ ?_ | with_reducible refine selP_ite h (by first | (simp only [Pin.eqi, Edge.eqi, Lattice.eqi, Arr3U8.eqi, Arr4I8.eqi, Arr2U8.eqi]; grind) | grind | fail) ?_ ?_ | with_reducible refine selP_ite2 h (by first | (simp only [Pin.eqi, Edge.eqi, Lattice.eqi, Arr3U8.eqi, Arr4I8.eqi, Arr2U8.eqi]; grind) | grind | fail) ?_ ?_
          · intro c_11 p_11 h
            obtain ⟨w69_12, hc, h⟩ := bind_elim h
            try simp -implicitDefEqProofs [c_11]
            repeat (with_reducible refine And.intro (by omega) ?_)
            refine runC_t (link_ref18_SameEdges hc) (by simp) ?_
            try simp -implicitDefEqProofs
            repeat (with_reducible refine And.intro (by omega) ?_)
            refine go_l ?_
            obtain rfl := Option.some.inj h
            exact hJ _ (wkN_of 0 [] (by simp [c_7, c_10, c_11]) (by simp [c_7, c_10, c_11]) (by simp) (by simp) (by simp))
          · intro c_11 p_11 h
            try simp -implicitDefEqProofs [c_11]
            repeat (with_reducible refine And.intro (by omega) ?_)
            refine go_l ?_
            obtain rfl := Option.some.inj h
            exact hJ _ (wkN_of 0 [] (by simp [c_7, c_10]) (by simp [c_7, c_10]) (by simp) (by simp) (by simp))
        · intro c_10 p_10 h
          try simp -implicitDefEqProofs [c_10]
          repeat (with_reducible refine And.intro (by omega) ?_)
          refine go_l ?_
          obtain rfl := Option.some.inj h
          exact hJ _ (wkN_of 0 [] (by simp [c_7]) (by simp [c_7]) (by simp) (by simp) (by simp))
      · intro c_9 p_9 h
        have q_9 := eq_false_of_ne_true c_9
        try simp -implicitDefEqProofs [q_9]
        repeat (with_reducible refine And.intro (by omega) ?_)
        refine go_l ?_
        obtain rfl := Option.some.inj h
        exact hJ _ (wkN_of 0 [] (by simp [c_7]) (by simp [c_7]) (by simp) (by simp) (by simp))
    · intro c_7 p_7 h
      try simp -implicitDefEqProofs [c_7]
      repeat (with_reducible refine And.intro (by omega) ?_)
      refine go_l ?_
      obtain rfl := Option.some.inj h
      exact hJ _ (wkN_of 0 [] (by simp) (by simp) (by simp) (by simp) (by simp))
def law18_PinMatchesReference (x0 : List Arr3U8) (x1 : List Arr3U8) (x2 : Arr4I8) : Option Bool :=
  (law18_sanity).bind fun w17_1 =>
  chk (-9223372036854775808 ≤ 1 + (rem ((UInt8.ofInt x2.x0).toNat : Int) 9) ∧ 1 + (rem ((UInt8.ofInt x2.x0).toNat : Int) 9) ≤ 9223372036854775807) <|
  (ref18_Made x0 (1 + (rem ((UInt8.ofInt x2.x0).toNat : Int) 9))).bind fun w26_5 =>
  (ref18_Lattice x1 (1 + (rem ((UInt8.ofInt x2.x0).toNat : Int) 9))).bind fun w29_6 =>
  chk (-9223372036854775808 ≤ x2.x1 ∧ x2.x1 ≤ 9223372036854775807) <|
  chk (-9223372036854775808 ≤ x2.x2 ∧ x2.x2 ≤ 9223372036854775807) <|
  chk (-9223372036854775808 ≤ x2.x3 ∧ x2.x3 ≤ 9223372036854775807) <|
  (pin_Put w26_5 (⟨rem x2.x1 12, rem x2.x2 12, rem x2.x3 3⟩ : Pin) (1 + (rem ((UInt8.ofInt x2.x0).toNat : Int) 9))).bind fun w47_16 =>
  (ref18_Put w26_5 (⟨rem x2.x1 12, rem x2.x2 12, rem x2.x3 3⟩ : Pin) (1 + (rem ((UInt8.ofInt x2.x0).toNat : Int) 9))).bind fun w54_17 =>
  (
    (
      (ref18_Same w47_16.1 w54_17.1).bind fun w64_20 =>
      if w64_20 = true then (
        if w47_16.2 = w54_17.2 then (
          (pin_Restrict w29_6 w26_5).bind fun w74_23 =>
          (ref18_Restrict w29_6 w26_5).bind fun w77_24 =>
          (ref18_SameEdges w74_23 w77_24).bind fun w78_25 =>
          some (!w78_25)
        ) else (
          some true
        )
      ) else (
        some true
      )
    : Option (Bool))
  ).bind fun v80_18 =>
  if v80_18 = true then (
    some false
  ) else (
    (
      (
        (pin_Insert w26_5 (rem ((UInt8.ofInt x2.x1).toNat : Int) 12)).bind fun w83_29 =>
        (ref18_Insert w26_5 (rem ((UInt8.ofInt x2.x1).toNat : Int) 12)).bind fun w86_30 =>
        (ref18_Same w83_29 w86_30).bind fun w87_31 =>
        if w87_31 = true then (
          (pin_Delete w26_5 (rem ((UInt8.ofInt x2.x1).toNat : Int) 12)).bind fun w91_33 =>
          (ref18_Delete w26_5 (rem ((UInt8.ofInt x2.x1).toNat : Int) 12)).bind fun w94_34 =>
          (ref18_Same w91_33 w94_34).bind fun w95_35 =>
          if w95_35 = true then (
            some w17_1
          ) else (
            some false
          )
        ) else (
          some false
        )
      : Option (Bool))
    ).bind fun v6_27 =>
    some v6_27
  )
theorem link_law18_PinMatchesReference {x0 : List Arr3U8} {x1 : List Arr3U8} {x2 : Arr4I8} {r : Bool} (h : law18_PinMatchesReference x0 x1 x2 = some r) : PCalls Try.prog 3 [.sl 3 (mp cArr3U8 x0) .lent, .sl 3 (mp cArr3U8 x1) .lent, .agg (cArr4I8 x2)] (.v (.bool r)) := by
  unfold law18_PinMatchesReference at h
  refine pcalls is3 na3 ?_
  try simp -implicitDefEqProofs
  refine go_seq ?_
  refine go_reg ?_
  try simp -implicitDefEqProofs
  repeat (with_reducible refine And.intro (by omega) ?_)
  refine go_seq ?_
  refine go_reg ?_
  obtain ⟨w17_1, hc, h⟩ := bind_elim h
  try simp -implicitDefEqProofs
  repeat (with_reducible refine And.intro (by omega) ?_)
  refine runC_t (link_law18_sanity hc) (by simp) ?_
  try simp -implicitDefEqProofs
  repeat (with_reducible refine And.intro (by omega) ?_)
  refine go_seq ?_
  refine go_reg ?_
  obtain ⟨⟨c_3, c_4⟩, h⟩ := chk_elim h
  try simp -implicitDefEqProofs [c_3, c_4]
  repeat (with_reducible refine And.intro (by omega) ?_)
  refine go_seq ?_
  refine go_reg ?_
  obtain ⟨w26_5, hc, h⟩ := bind_elim h
  try simp -implicitDefEqProofs
  repeat (with_reducible refine And.intro (by omega) ?_)
  refine runC_t (link_ref18_Made hc) (by simp) ?_
  obtain ⟨w29_6, hc, h⟩ := bind_elim h
  try simp -implicitDefEqProofs
  repeat (with_reducible refine And.intro (by omega) ?_)
  refine runC_t (link_ref18_Lattice hc) (by simp) ?_
  try simp -implicitDefEqProofs
  repeat (with_reducible refine And.intro (by omega) ?_)
  refine go_seq ?_
  refine go_reg ?_
  obtain ⟨⟨c_8, c_9⟩, h⟩ := chk_elim h
  obtain ⟨⟨c_11, c_12⟩, h⟩ := chk_elim h
  obtain ⟨⟨c_14, c_15⟩, h⟩ := chk_elim h
  try simp -implicitDefEqProofs [c_8, c_9, c_11, c_12, c_14, c_15]
  repeat (with_reducible refine And.intro (by omega) ?_)
  refine go_seq ?_
  refine go_reg ?_
  obtain ⟨w47_16, hc, h⟩ := bind_elim h
  try simp -implicitDefEqProofs
  repeat (with_reducible refine And.intro (by omega) ?_)
  refine runC_t (link_pin_Put hc) (by simp) ?_
  try simp -implicitDefEqProofs
  repeat (with_reducible refine And.intro (by omega) ?_)
  refine go_seq ?_
  refine go_reg ?_
  obtain ⟨w54_17, hc, h⟩ := bind_elim h
  try simp -implicitDefEqProofs
  repeat (with_reducible refine And.intro (by omega) ?_)
  refine runC_t (link_ref18_Put hc) (by simp) ?_
  try simp -implicitDefEqProofs
  repeat (with_reducible refine And.intro (by omega) ?_)
  refine go_seq ?_
  refine go_reg ?_
  try simp -implicitDefEqProofs
  repeat (with_reducible refine And.intro (by omega) ?_)
  refine go_seq ?_
  refine go_seq ?_
  refine go_reg ?_
  refine run_join h [⟨.a, .h, .g⟩, ⟨.a, .h, .h⟩, ⟨.b, .a, .a⟩, ⟨.b, .a, .b⟩, ⟨.b, .a, .c⟩, ⟨.b, .a, .d⟩, ⟨.b, .a, .e⟩, ⟨.b, .a, .f⟩, ⟨.b, .a, .g⟩, ⟨.b, .a, .h⟩, ⟨.b, .b, .a⟩, ⟨.b, .b, .b⟩, ⟨.b, .b, .c⟩, ⟨.b, .b, .d⟩, ⟨.b, .b, .e⟩, ⟨.b, .b, .f⟩, ⟨.b, .b, .g⟩, ⟨.b, .b, .h⟩, ⟨.b, .c, .a⟩] (fun v80_18 => [(⟨.b, .c, .a⟩, .v (.bool v80_18))]) (fun v80_18 => [[.v (.int .i8 x2.x0), .v (.int .i8 x2.x1), .v (.int .i8 x2.x2), .v (.int .i8 x2.x3)], [.v (.int .i64 w29_6.N), .sl 4 (mp cEdge w29_6.Edges) .none], [.v (.int .i64 (rem x2.x1 12)), .v (.int .i64 (rem x2.x2 12)), .v (.int .i64 (rem x2.x3 3))]]) (fun v80_18 => []) (by repeat (first | exact soft_c | refine soft_b ?_)) ?_ ?_
  · rintro v80_18 h
    try dsimp only at h
    try simp -implicitDefEqProofs
    refine go_cond ?_
    try simp -implicitDefEqProofs
    repeat (with_reducible refine And.intro (by omega) ?_)
    first | with_reducible refine selP_ite h (by first | exact Iff.rfl | omega | (simp; done) | (simp [Pin.eqi, Edge.eqi, Lattice.eqi, Arr3U8.eqi, Arr4I8.eqi, Arr2U8.eqi]; done) | fail) ?_ ?_ | with_reducible refine selP_ite2 h (by first | exact Iff.rfl | omega | (simp; done) | (simp [Pin.eqi, Edge.eqi, Lattice.eqi, Arr3U8.eqi, Arr4I8.eqi, Arr2U8.eqi]; done) | fail) ?_ ?_ | with_reducible refine selP_ite h (by first | (simp only [Pin.eqi, Edge.eqi, Lattice.eqi, Arr3U8.eqi, Arr4I8.eqi, Arr2U8.eqi]; grind) | grind | fail) ?_ ?_ | with_reducible refine selP_ite2 h (by first | (simp only [Pin.eqi, Edge.eqi, Lattice.eqi, Arr3U8.eqi, Arr4I8.eqi, Arr2U8.eqi]; grind) | grind | fail) ?_ ?_
    · intro c_26 p_26 h
      refine go_seq ?_
      refine go_reg ?_
      try simp -implicitDefEqProofs [c_26]
      repeat (with_reducible refine And.intro (by omega) ?_)
      obtain rfl := Option.some.inj h
      refine go_ret ?_
      simp -implicitDefEqProofs
    · intro c_26 p_26 h
      have q_26 := eq_false_of_ne_true c_26
      refine go_skip ?_
      refine go_seq ?_
      refine go_reg ?_
      refine run_join h [⟨.a, .a, .g⟩, ⟨.b, .c, .b⟩, ⟨.b, .c, .c⟩, ⟨.b, .c, .d⟩, ⟨.b, .c, .e⟩, ⟨.b, .c, .f⟩, ⟨.b, .c, .g⟩, ⟨.b, .c, .h⟩, ⟨.b, .d, .a⟩, ⟨.b, .d, .b⟩, ⟨.b, .d, .c⟩, ⟨.b, .d, .d⟩, ⟨.b, .d, .e⟩, ⟨.b, .d, .f⟩, ⟨.b, .d, .g⟩, ⟨.b, .d, .h⟩, ⟨.b, .e, .a⟩, ⟨.b, .e, .b⟩, ⟨.b, .e, .c⟩, ⟨.b, .e, .d⟩] (fun v6_27 => [(⟨.a, .a, .g⟩, .v (.bool v6_27))]) (fun v6_27 => [[.v (.int .i8 x2.x0), .v (.int .i8 x2.x1), .v (.int .i8 x2.x2), .v (.int .i8 x2.x3)], [.v (.int .i64 w29_6.N), .sl 4 (mp cEdge w29_6.Edges) .none], [.v (.int .i64 (rem x2.x1 12)), .v (.int .i64 (rem x2.x2 12)), .v (.int .i64 (rem x2.x3 3))]]) (fun v6_27 => []) (by repeat (first | exact soft_c | refine soft_b ?_)) ?_ ?_
      · rintro v6_27 h
        try dsimp only at h
        try simp -implicitDefEqProofs
        obtain rfl := Option.some.inj h
        refine go_ret ?_
        simp -implicitDefEqProofs [q_26]
      · intro v E h hJ
        obtain ⟨w83_29, hc, h⟩ := bind_elim h
        try simp -implicitDefEqProofs [q_26]
        repeat (with_reducible refine And.intro (by omega) ?_)
        refine runC_t (link_pin_Insert hc) (by simp) ?_
        obtain ⟨w86_30, hc, h⟩ := bind_elim h
        try simp -implicitDefEqProofs
        repeat (with_reducible refine And.intro (by omega) ?_)
        refine runC_t (link_ref18_Insert hc) (by simp) ?_
        obtain ⟨w87_31, hc, h⟩ := bind_elim h
        try simp -implicitDefEqProofs
        repeat (with_reducible refine And.intro (by omega) ?_)
        refine runC_t (link_ref18_Same hc) (by simp) ?_
        try simp -implicitDefEqProofs
        repeat (with_reducible refine And.intro (by omega) ?_)
        first | with_reducible refine selP_ite h (by first | exact Iff.rfl | omega | (simp; done) | (simp [Pin.eqi, Edge.eqi, Lattice.eqi, Arr3U8.eqi, Arr4I8.eqi, Arr2U8.eqi]; done) | fail) ?_ ?_ | with_reducible refine selP_ite2 h (by first | exact Iff.rfl | omega | (simp; done) | (simp [Pin.eqi, Edge.eqi, Lattice.eqi, Arr3U8.eqi, Arr4I8.eqi, Arr2U8.eqi]; done) | fail) ?_ ?_ | with_reducible refine selP_ite h (by first | (simp only [Pin.eqi, Edge.eqi, Lattice.eqi, Arr3U8.eqi, Arr4I8.eqi, Arr2U8.eqi]; grind) | grind | fail) ?_ ?_ | with_reducible refine selP_ite2 h (by first | (simp only [Pin.eqi, Edge.eqi, Lattice.eqi, Arr3U8.eqi, Arr4I8.eqi, Arr2U8.eqi]; grind) | grind | fail) ?_ ?_
        · intro c_32 p_32 h
          obtain ⟨w91_33, hc, h⟩ := bind_elim h
          try simp -implicitDefEqProofs [c_32]
          repeat (with_reducible refine And.intro (by omega) ?_)
          refine runC_t (link_pin_Delete hc) (by simp) ?_
          obtain ⟨w94_34, hc, h⟩ := bind_elim h
          try simp -implicitDefEqProofs
          repeat (with_reducible refine And.intro (by omega) ?_)
          refine runC_t (link_ref18_Delete hc) (by simp) ?_
          obtain ⟨w95_35, hc, h⟩ := bind_elim h
          try simp -implicitDefEqProofs
          repeat (with_reducible refine And.intro (by omega) ?_)
          refine runC_t (link_ref18_Same hc) (by simp) ?_
          try simp -implicitDefEqProofs
          repeat (with_reducible refine And.intro (by omega) ?_)
          first | with_reducible refine selP_ite h (by first | exact Iff.rfl | omega | (simp; done) | (simp [Pin.eqi, Edge.eqi, Lattice.eqi, Arr3U8.eqi, Arr4I8.eqi, Arr2U8.eqi]; done) | fail) ?_ ?_ | with_reducible refine selP_ite2 h (by first | exact Iff.rfl | omega | (simp; done) | (simp [Pin.eqi, Edge.eqi, Lattice.eqi, Arr3U8.eqi, Arr4I8.eqi, Arr2U8.eqi]; done) | fail) ?_ ?_ | with_reducible refine selP_ite h (by first | (simp only [Pin.eqi, Edge.eqi, Lattice.eqi, Arr3U8.eqi, Arr4I8.eqi, Arr2U8.eqi]; grind) | grind | fail) ?_ ?_ | with_reducible refine selP_ite2 h (by first | (simp only [Pin.eqi, Edge.eqi, Lattice.eqi, Arr3U8.eqi, Arr4I8.eqi, Arr2U8.eqi]; grind) | grind | fail) ?_ ?_
          · intro c_36 p_36 h
            try simp -implicitDefEqProofs [c_36]
            repeat (with_reducible refine And.intro (by omega) ?_)
            refine go_l ?_
            obtain rfl := Option.some.inj h
            exact hJ _ (wkN_of 0 [] (by simp [c_26]) (by simp [c_26]) (by simp) (by simp) (by simp))
          · intro c_36 p_36 h
            have q_36 := eq_false_of_ne_true c_36
            try simp -implicitDefEqProofs [q_36]
            repeat (with_reducible refine And.intro (by omega) ?_)
            refine go_l ?_
            obtain rfl := Option.some.inj h
            exact hJ _ (wkN_of 0 [] (by simp [c_26]) (by simp [c_26]) (by simp) (by simp) (by simp))
        · intro c_32 p_32 h
          have q_32 := eq_false_of_ne_true c_32
          try simp -implicitDefEqProofs [q_32]
          repeat (with_reducible refine And.intro (by omega) ?_)
          refine go_l ?_
          obtain rfl := Option.some.inj h
          exact hJ _ (wkN_of 0 [] (by simp [c_26]) (by simp [c_26]) (by simp) (by simp) (by simp))
  · intro v E h hJ
    obtain ⟨w64_20, hc, h⟩ := bind_elim h
    try simp -implicitDefEqProofs
    repeat (with_reducible refine And.intro (by omega) ?_)
    refine runC_t (link_ref18_Same hc) (by simp) ?_
    try simp -implicitDefEqProofs
    repeat (with_reducible refine And.intro (by omega) ?_)
    first | with_reducible refine selP_ite h (by first | exact Iff.rfl | omega | (simp; done) | (simp [Pin.eqi, Edge.eqi, Lattice.eqi, Arr3U8.eqi, Arr4I8.eqi, Arr2U8.eqi]; done) | fail) ?_ ?_ | with_reducible refine selP_ite2 h (by first | exact Iff.rfl | omega | (simp; done) | (simp [Pin.eqi, Edge.eqi, Lattice.eqi, Arr3U8.eqi, Arr4I8.eqi, Arr2U8.eqi]; done) | fail) ?_ ?_ | with_reducible refine selP_ite h (by first | (simp only [Pin.eqi, Edge.eqi, Lattice.eqi, Arr3U8.eqi, Arr4I8.eqi, Arr2U8.eqi]; grind) | grind | fail) ?_ ?_ | with_reducible refine selP_ite2 h (by first | (simp only [Pin.eqi, Edge.eqi, Lattice.eqi, Arr3U8.eqi, Arr4I8.eqi, Arr2U8.eqi]; grind) | grind | fail) ?_ ?_
    · intro c_21 p_21 h
      try simp -implicitDefEqProofs [c_21]
      repeat (with_reducible refine And.intro (by omega) ?_)
      first | with_reducible refine selP_ite h (by first | exact Iff.rfl | omega | (simp; done) | (simp [Pin.eqi, Edge.eqi, Lattice.eqi, Arr3U8.eqi, Arr4I8.eqi, Arr2U8.eqi]; done) | fail) ?_ ?_ | with_reducible refine selP_ite2 h (by first | exact Iff.rfl | omega | (simp; done) | (simp [Pin.eqi, Edge.eqi, Lattice.eqi, Arr3U8.eqi, Arr4I8.eqi, Arr2U8.eqi]; done) | fail) ?_ ?_ | with_reducible refine selP_ite h (by first | (simp only [Pin.eqi, Edge.eqi, Lattice.eqi, Arr3U8.eqi, Arr4I8.eqi, Arr2U8.eqi]; grind) | grind | fail) ?_ ?_ | with_reducible refine selP_ite2 h (by first | (simp only [Pin.eqi, Edge.eqi, Lattice.eqi, Arr3U8.eqi, Arr4I8.eqi, Arr2U8.eqi]; grind) | grind | fail) ?_ ?_
      · intro c_22 p_22 h
        obtain ⟨w74_23, hc, h⟩ := bind_elim h
        try simp -implicitDefEqProofs [c_22]
        repeat (with_reducible refine And.intro (by omega) ?_)
        refine runC_t (link_pin_Restrict hc) (by simp) ?_
        obtain ⟨w77_24, hc, h⟩ := bind_elim h
        try simp -implicitDefEqProofs
        repeat (with_reducible refine And.intro (by omega) ?_)
        refine runC_t (link_ref18_Restrict hc) (by simp) ?_
        obtain ⟨w78_25, hc, h⟩ := bind_elim h
        try simp -implicitDefEqProofs
        repeat (with_reducible refine And.intro (by omega) ?_)
        refine runC_t (link_ref18_SameEdges hc) (by simp) ?_
        try simp -implicitDefEqProofs
        repeat (with_reducible refine And.intro (by omega) ?_)
        refine go_l ?_
        obtain rfl := Option.some.inj h
        exact hJ _ (wkN_of 0 [] (by simp [c_22]) (by simp [c_22]) (by simp) (by simp) (by simp))
      · intro c_22 p_22 h
        try simp -implicitDefEqProofs [c_22]
        repeat (with_reducible refine And.intro (by omega) ?_)
        refine go_l ?_
        obtain rfl := Option.some.inj h
        exact hJ _ (wkN_of 0 [] (by simp) (by simp) (by simp) (by simp) (by simp))
    · intro c_21 p_21 h
      have q_21 := eq_false_of_ne_true c_21
      try simp -implicitDefEqProofs [q_21]
      repeat (with_reducible refine And.intro (by omega) ?_)
      refine go_l ?_
      obtain rfl := Option.some.inj h
      exact hJ _ (wkN_of 0 [] (by simp) (by simp) (by simp) (by simp) (by simp))
def law18_PinPuts_L1 (w24_5 : List Pin) (w27_6 : Pin) (w32_7 : List Pin × Int) : (Int × Int) → Option ((Int × Int) ⊕ (Bool ⊕ Int)) := fun (v15__20, v16__21) =>
  if v16__21 < (w24_5.length : Int) then (
    chk (0 ≤ v16__21 ∧ v16__21 < (w24_5.length : Int)) <|
    (ref18_Overlap (at' w24_5 v16__21) w27_6).bind fun w77_28 =>
    ((
      if w77_28 = true then (
        some (.inr v15__20)
      ) else (
        chk (-9223372036854775808 ≤ v15__20 + 1 ∧ v15__20 + 1 ≤ 9223372036854775807) <|
        (ref18_Has w32_7.1 (at' w24_5 v16__21)).bind fun w86_35 =>
        if w86_35 = true then (
          some (.inr (v15__20 + 1))
        ) else (
          some (.inl (.inr (.inl false)))
        )
      )
    ) : Option (((Int × Int) ⊕ (Bool ⊕ Int)) ⊕ Int)).bind fun
    | .inl e => some e
    | .inr v15_29 =>
    chk (-9223372036854775808 ≤ v16__21 + 1 ∧ v16__21 + 1 ≤ 9223372036854775807) <|
    some (.inl (v15_29, v16__21 + 1))
  ) else (
    some (.inr (.inr v15__20))
  )
def law18_PinPuts (x0 : List Arr3U8) (x1 : Arr3U8) (x2 : UInt8) : Option Bool :=
  (law18_sanity).bind fun w17_1 =>
  chk (-9223372036854775808 ≤ 1 + (rem (x2.toNat : Int) 9) ∧ 1 + (rem (x2.toNat : Int) 9) ≤ 9223372036854775807) <|
  (ref18_Made x0 (1 + (rem (x2.toNat : Int) 9))).bind fun w24_5 =>
  (ref18_Pin x1 (1 + (rem (x2.toNat : Int) 9))).bind fun w27_6 =>
  (pin_Put w24_5 w27_6 (1 + (rem (x2.toNat : Int) 9))).bind fun w32_7 =>
  (pin_Put w32_7.1 w27_6 (1 + (rem (x2.toNat : Int) 9))).bind fun w39_8 =>
  (
    (
      if w32_7.2 = 0 then (
        if w39_8.2 = 0 then (
          (ref18_Valid w32_7.1 (1 + (rem (x2.toNat : Int) 9))).bind fun w51_13 =>
          if w51_13 = true then (
            (ref18_Has w32_7.1 w27_6).bind fun w57_15 =>
            if w57_15 = true then (
              (ref18_Same w32_7.1 w39_8.1).bind fun w63_17 =>
              some (!w63_17)
            ) else (
              some true
            )
          ) else (
            some true
          )
        ) else (
          some true
        )
      ) else (
        some true
      )
    : Option (Bool))
  ).bind fun v65_9 =>
  if v65_9 = true then (
    some false
  ) else (
    (loop (law18_PinPuts_L1 w24_5 w27_6 w32_7) (1, 0)).bind fun
    | .inl e => some e
    | .inr v15_22 =>
    (
      (
        if (w32_7.1.length : Int) = v15_22 then (
          some w17_1
        ) else (
          some false
        )
      : Option (Bool))
    ).bind fun v6_40 =>
    some v6_40
  )
theorem link_law18_PinPuts {x0 : List Arr3U8} {x1 : Arr3U8} {x2 : UInt8} {r : Bool} (h : law18_PinPuts x0 x1 x2 = some r) : PCalls Try.prog 4 [.sl 3 (mp cArr3U8 x0) .lent, .agg (cArr3U8 x1), .v (.int .u8 (x2.toNat : Int))] (.v (.bool r)) := by
  unfold law18_PinPuts at h
  refine pcalls is4 na4 ?_
  try simp -implicitDefEqProofs
  refine go_seq ?_
  refine go_reg ?_
  try simp -implicitDefEqProofs
  repeat (with_reducible refine And.intro (by omega) ?_)
  refine go_seq ?_
  refine go_reg ?_
  obtain ⟨w17_1, hc, h⟩ := bind_elim h
  try simp -implicitDefEqProofs
  repeat (with_reducible refine And.intro (by omega) ?_)
  refine runC_t (link_law18_sanity hc) (by simp) ?_
  try simp -implicitDefEqProofs
  repeat (with_reducible refine And.intro (by omega) ?_)
  refine go_seq ?_
  refine go_reg ?_
  obtain ⟨⟨c_3, c_4⟩, h⟩ := chk_elim h
  try simp -implicitDefEqProofs [c_3, c_4]
  repeat (with_reducible refine And.intro (by omega) ?_)
  refine go_seq ?_
  refine go_reg ?_
  obtain ⟨w24_5, hc, h⟩ := bind_elim h
  try simp -implicitDefEqProofs
  repeat (with_reducible refine And.intro (by omega) ?_)
  refine runC_t (link_ref18_Made hc) (by simp) ?_
  obtain ⟨w27_6, hc, h⟩ := bind_elim h
  try simp -implicitDefEqProofs
  repeat (with_reducible refine And.intro (by omega) ?_)
  refine runC_t (link_ref18_Pin hc) (by simp) ?_
  try simp -implicitDefEqProofs
  repeat (with_reducible refine And.intro (by omega) ?_)
  refine go_seq ?_
  refine go_reg ?_
  obtain ⟨w32_7, hc, h⟩ := bind_elim h
  try simp -implicitDefEqProofs
  repeat (with_reducible refine And.intro (by omega) ?_)
  refine runC_t (link_pin_Put hc) (by simp) ?_
  try simp -implicitDefEqProofs
  repeat (with_reducible refine And.intro (by omega) ?_)
  refine go_seq ?_
  refine go_reg ?_
  obtain ⟨w39_8, hc, h⟩ := bind_elim h
  try simp -implicitDefEqProofs
  repeat (with_reducible refine And.intro (by omega) ?_)
  refine runC_t (link_pin_Put hc) (by simp) ?_
  try simp -implicitDefEqProofs
  repeat (with_reducible refine And.intro (by omega) ?_)
  refine go_seq ?_
  refine go_seq ?_
  refine go_reg ?_
  refine run_join h [⟨.a, .f, .c⟩, ⟨.a, .f, .d⟩, ⟨.a, .f, .e⟩, ⟨.a, .f, .f⟩, ⟨.a, .f, .g⟩, ⟨.a, .f, .h⟩, ⟨.a, .g, .a⟩, ⟨.a, .g, .b⟩, ⟨.a, .g, .c⟩, ⟨.a, .g, .d⟩, ⟨.a, .g, .e⟩, ⟨.a, .g, .f⟩, ⟨.a, .g, .g⟩, ⟨.a, .g, .h⟩, ⟨.a, .h, .a⟩, ⟨.a, .h, .b⟩, ⟨.a, .h, .c⟩, ⟨.a, .h, .d⟩, ⟨.a, .h, .e⟩, ⟨.a, .h, .f⟩, ⟨.a, .h, .g⟩, ⟨.a, .h, .h⟩, ⟨.b, .a, .a⟩, ⟨.b, .a, .b⟩] (fun v65_9 => [(⟨.b, .a, .b⟩, .v (.bool v65_9))]) (fun v65_9 => [[.v (.int .u8 (x1.x0.toNat : Int)), .v (.int .u8 (x1.x1.toNat : Int)), .v (.int .u8 (x1.x2.toNat : Int))], [.v (.int .i64 w27_6.From), .v (.int .i64 w27_6.To), .v (.int .i64 w27_6.Word)]]) (fun v65_9 => []) (by repeat (first | exact soft_c | refine soft_b ?_)) ?_ ?_
  · rintro v65_9 h
    try dsimp only at h
    try simp -implicitDefEqProofs
    refine go_cond ?_
    try simp -implicitDefEqProofs
    repeat (with_reducible refine And.intro (by omega) ?_)
    first | with_reducible refine selP_ite h (by first | exact Iff.rfl | omega | (simp; done) | (simp [Pin.eqi, Edge.eqi, Lattice.eqi, Arr3U8.eqi, Arr4I8.eqi, Arr2U8.eqi]; done) | fail) ?_ ?_ | with_reducible refine selP_ite2 h (by first | exact Iff.rfl | omega | (simp; done) | (simp [Pin.eqi, Edge.eqi, Lattice.eqi, Arr3U8.eqi, Arr4I8.eqi, Arr2U8.eqi]; done) | fail) ?_ ?_ | with_reducible refine selP_ite h (by first | (simp only [Pin.eqi, Edge.eqi, Lattice.eqi, Arr3U8.eqi, Arr4I8.eqi, Arr2U8.eqi]; grind) | grind | fail) ?_ ?_ | with_reducible refine selP_ite2 h (by first | (simp only [Pin.eqi, Edge.eqi, Lattice.eqi, Arr3U8.eqi, Arr4I8.eqi, Arr2U8.eqi]; grind) | grind | fail) ?_ ?_
    · intro c_18 p_18 h
      refine go_seq ?_
      refine go_reg ?_
      try simp -implicitDefEqProofs [c_18]
      repeat (with_reducible refine And.intro (by omega) ?_)
      obtain rfl := Option.some.inj h
      refine go_ret ?_
      simp -implicitDefEqProofs
    · intro c_18 p_18 h
      have q_18 := eq_false_of_ne_true c_18
      refine go_skip ?_
      refine go_seq ?_
      refine go_reg ?_
      try simp -implicitDefEqProofs [q_18]
      repeat (with_reducible refine And.intro (by omega) ?_)
      refine go_seq ?_
      refine go_seq ?_
      refine go_reg ?_
      try simp -implicitDefEqProofs
      repeat (with_reducible refine And.intro (by omega) ?_)
      refine go_block ?_
      obtain ⟨rr_43, h, hn_19⟩ := bind_elim h
      refine go_loop (ε := Int) h 0 (fun e => .inr e) (fun (v15__20, v16__21) => [(⟨.a, .b, .h⟩, .v (.int .i64 v15__20)), (⟨.a, .c, .a⟩, .v (.int .i64 v16__21))]) (fun (v15__20, v16__21) => [[.v (.int .u8 (x1.x0.toNat : Int)), .v (.int .u8 (x1.x1.toNat : Int)), .v (.int .u8 (x1.x2.toNat : Int))], [.v (.int .i64 w27_6.From), .v (.int .i64 w27_6.To), .v (.int .i64 w27_6.Word)]]) (fun (v15__20, v16__21) => []) (fun v15_22 => [(⟨.a, .b, .h⟩, .v (.int .i64 v15_22))]) (fun v15_22 => [[.v (.int .u8 (x1.x0.toNat : Int)), .v (.int .u8 (x1.x1.toNat : Int)), .v (.int .u8 (x1.x2.toNat : Int))], [.v (.int .i64 w27_6.From), .v (.int .i64 w27_6.To), .v (.int .i64 w27_6.Word)]]) (fun v15_22 => []) (wkN_of 0 [] (by simp) (by simp) (by simp) (by simp) (by simp)) ?_ ?_
      · rintro v15_22 hq
        try simp -implicitDefEqProofs
        have h := hn_19
        rw [hq] at h
        try dsimp only at h
        refine go_seq ?_
        refine go_reg ?_
        refine run_join h [⟨.a, .a, .g⟩, ⟨.b, .d, .a⟩, ⟨.b, .d, .b⟩, ⟨.b, .d, .c⟩, ⟨.b, .d, .d⟩, ⟨.b, .d, .e⟩, ⟨.b, .d, .f⟩, ⟨.b, .d, .g⟩] (fun v6_40 => [(⟨.a, .a, .g⟩, .v (.bool v6_40))]) (fun v6_40 => [[.v (.int .u8 (x1.x0.toNat : Int)), .v (.int .u8 (x1.x1.toNat : Int)), .v (.int .u8 (x1.x2.toNat : Int))], [.v (.int .i64 w27_6.From), .v (.int .i64 w27_6.To), .v (.int .i64 w27_6.Word)]]) (fun v6_40 => []) (by repeat (first | exact soft_c | refine soft_b ?_)) ?_ ?_
        · rintro v6_40 h
          try dsimp only at h
          try simp -implicitDefEqProofs
          obtain rfl := Option.some.inj h
          refine go_ret ?_
          simp -implicitDefEqProofs
        · intro v E h hJ
          try simp -implicitDefEqProofs
          repeat (with_reducible refine And.intro (by omega) ?_)
          first | with_reducible refine selP_ite h (by first | exact Iff.rfl | omega | (simp; done) | (simp [Pin.eqi, Edge.eqi, Lattice.eqi, Arr3U8.eqi, Arr4I8.eqi, Arr2U8.eqi]; done) | fail) ?_ ?_ | with_reducible refine selP_ite2 h (by first | exact Iff.rfl | omega | (simp; done) | (simp [Pin.eqi, Edge.eqi, Lattice.eqi, Arr3U8.eqi, Arr4I8.eqi, Arr2U8.eqi]; done) | fail) ?_ ?_ | with_reducible refine selP_ite h (by first | (simp only [Pin.eqi, Edge.eqi, Lattice.eqi, Arr3U8.eqi, Arr4I8.eqi, Arr2U8.eqi]; grind) | grind | fail) ?_ ?_ | with_reducible refine selP_ite2 h (by first | (simp only [Pin.eqi, Edge.eqi, Lattice.eqi, Arr3U8.eqi, Arr4I8.eqi, Arr2U8.eqi]; grind) | grind | fail) ?_ ?_
          · intro c_42 p_42 h
            try simp -implicitDefEqProofs [c_42]
            repeat (with_reducible refine And.intro (by omega) ?_)
            refine go_l ?_
            obtain rfl := Option.some.inj h
            exact hJ _ (wkN_of 0 [] (by simp) (by simp) (by simp) (by simp) (by simp))
          · intro c_42 p_42 h
            try simp -implicitDefEqProofs [c_42]
            repeat (with_reducible refine And.intro (by omega) ?_)
            refine go_l ?_
            obtain rfl := Option.some.inj h
            exact hJ _ (wkN_of 0 [] (by simp) (by simp) (by simp) (by simp) (by simp))
      · rintro ⟨v15__20, v16__21⟩ o B' E' h hB hE hR
        simp only [law18_PinPuts_L1] at h
        simp -implicitDefEqProofs
        refine go_seq ?_
        refine go_seq ?_
        refine go_reg ?_
        try simp -implicitDefEqProofs
        repeat (with_reducible refine And.intro (by omega) ?_)
        refine go_cond ?_
        try simp -implicitDefEqProofs
        repeat (with_reducible refine And.intro (by omega) ?_)
        first | with_reducible refine selP_ite h (by first | exact Iff.rfl | omega | (simp; done) | (simp [Pin.eqi, Edge.eqi, Lattice.eqi, Arr3U8.eqi, Arr4I8.eqi, Arr2U8.eqi]; done) | fail) ?_ ?_ | with_reducible refine selP_ite2 h (by first | exact Iff.rfl | omega | (simp; done) | (simp [Pin.eqi, Edge.eqi, Lattice.eqi, Arr3U8.eqi, Arr4I8.eqi, Arr2U8.eqi]; done) | fail) ?_ ?_ | with_reducible refine selP_ite h (by first | (simp only [Pin.eqi, Edge.eqi, Lattice.eqi, Arr3U8.eqi, Arr4I8.eqi, Arr2U8.eqi]; grind) | grind | fail) ?_ ?_ | with_reducible refine selP_ite2 h (by first | (simp only [Pin.eqi, Edge.eqi, Lattice.eqi, Arr3U8.eqi, Arr4I8.eqi, Arr2U8.eqi]; grind) | grind | fail) ?_ ?_
        · intro c_23 p_23 h
          refine go_skip ?_
          refine go_seq ?_
          refine go_block ?_
          refine go_seq ?_
          refine go_reg ?_
          obtain ⟨⟨c_25, c_26⟩, h⟩ := chk_elim h
          have k_27 := toNat_lt c_25 c_26
          obtain ⟨w77_28, hc, h⟩ := bind_elim h
          try simp -implicitDefEqProofs [c_23, c_25, k_27]
          repeat (with_reducible refine And.intro (by omega) ?_)
          refine runC_t (link_ref18_Overlap hc) (by simp) ?_
          try simp -implicitDefEqProofs
          repeat (with_reducible refine And.intro (by omega) ?_)
          refine go_join2 h [⟨.a, .a, .g⟩, ⟨.a, .b, .h⟩, ⟨.b, .b, .h⟩, ⟨.b, .c, .a⟩, ⟨.b, .c, .b⟩, ⟨.b, .c, .c⟩, ⟨.b, .c, .d⟩, ⟨.b, .c, .e⟩, ⟨.b, .c, .f⟩, ⟨.b, .c, .g⟩, ⟨.b, .c, .h⟩] (fun v15_29 => [(⟨.a, .b, .h⟩, .v (.int .i64 v15_29))]) (fun v15_29 => [[.v (.int .u8 (x1.x0.toNat : Int)), .v (.int .u8 (x1.x1.toNat : Int)), .v (.int .u8 (x1.x2.toNat : Int))], [.v (.int .i64 w27_6.From), .v (.int .i64 w27_6.To), .v (.int .i64 w27_6.Word)]]) (fun v15_29 => []) (by repeat (first | exact soft_c | refine soft_b ?_)) ?_ ?_
          · rintro v15_29 h
            try dsimp only at h
            try simp -implicitDefEqProofs
            refine go_b ?_
            refine go_reg ?_
            obtain ⟨⟨c_38, c_39⟩, h⟩ := chk_elim h
            try simp -implicitDefEqProofs [c_38, c_39]
            repeat (with_reducible refine And.intro (by omega) ?_)
            refine go_l ?_
            exact hB _ _ (Option.some.inj h).symm (wkN_of 0 [] (by simp) (by simp) (by simp) (by simp) (by simp))
          · intro o E h hk_30 hJ
            refine go_cond ?_
            try simp -implicitDefEqProofs
            repeat (with_reducible refine And.intro (by omega) ?_)
            first | with_reducible refine selP_ite h (by first | exact Iff.rfl | omega | (simp; done) | (simp; done) | fail) ?_ ?_ | with_reducible refine selP_ite2 h (by first | exact Iff.rfl | omega | (simp; done) | (simp [Pin.eqi, Edge.eqi, Lattice.eqi, Arr3U8.eqi, Arr4I8.eqi, Arr2U8.eqi]; done) | fail) ?_ ?_ | with_reducible refine selP_ite h (by first | (simp only [Pin.eqi, Edge.eqi, Lattice.eqi, Arr3U8.eqi, Arr4I8.eqi, Arr2U8.eqi]; grind) | grind | fail) ?_ ?_ | with_reducible refine selP_ite2 h (by first | (simp only [Pin.eqi, Edge.eqi, Lattice.eqi, Arr3U8.eqi, Arr4I8.eqi, Arr2U8.eqi]; grind) | grind | fail) ?_ ?_
            · intro c_31 p_31 h
              refine go_skip ?_
              refine go_l ?_
              obtain rfl := Option.some.inj h
              exact hJ _ _ rfl (wkN_of 0 [] (by simp [c_31]) (by simp [c_31]) (by simp) (by simp) (by simp))
            · intro c_31 p_31 h
              have q_31 := eq_false_of_ne_true c_31
              refine go_seq ?_
              refine go_reg ?_
              obtain ⟨⟨c_33, c_34⟩, h⟩ := chk_elim h
              try simp -implicitDefEqProofs [p_31, c_33, c_34]
              repeat (with_reducible refine And.intro (by omega) ?_)
              refine go_seq ?_
              refine go_reg ?_
              obtain ⟨w86_35, hc, h⟩ := bind_elim h
              try simp -implicitDefEqProofs [c_23, c_25, k_27]
              repeat (with_reducible refine And.intro (by omega) ?_)
              refine runC_t (link_ref18_Has hc) (by simp) ?_
              try simp -implicitDefEqProofs
              repeat (with_reducible refine And.intro (by omega) ?_)
              refine go_cond ?_
              try simp -implicitDefEqProofs
              repeat (with_reducible refine And.intro (by omega) ?_)
              first | with_reducible refine selP_ite h (by first | exact Iff.rfl | omega | (simp; done) | (simp; done) | fail) ?_ ?_ | with_reducible refine selP_ite2 h (by first | exact Iff.rfl | omega | (simp; done) | (simp [Pin.eqi, Edge.eqi, Lattice.eqi, Arr3U8.eqi, Arr4I8.eqi, Arr2U8.eqi]; done) | fail) ?_ ?_ | with_reducible refine selP_ite h (by first | (simp only [Pin.eqi, Edge.eqi, Lattice.eqi, Arr3U8.eqi, Arr4I8.eqi, Arr2U8.eqi]; grind) | grind | fail) ?_ ?_ | with_reducible refine selP_ite2 h (by first | (simp only [Pin.eqi, Edge.eqi, Lattice.eqi, Arr3U8.eqi, Arr4I8.eqi, Arr2U8.eqi]; grind) | grind | fail) ?_ ?_
              · intro c_36 p_36 h
                refine go_skip ?_
                refine go_l ?_
                obtain rfl := Option.some.inj h
                exact hJ _ _ rfl (wkN_of 0 [] (by simp [c_31, c_36]) (by simp [c_31]) (by simp) (by simp) (by simp))
              · intro c_36 p_36 h
                have q_36 := eq_false_of_ne_true c_36
                refine go_seq ?_
                refine go_reg ?_
                try simp -implicitDefEqProofs [p_36]
                repeat (with_reducible refine And.intro (by omega) ?_)
                obtain rfl := Option.some.inj h
                have h := hk_30
                try dsimp only at h
                obtain rfl := hR _ (Option.some.inj h).symm
                try dsimp only at hn_19
                have h := hn_19
                obtain rfl := Option.some.inj h
                refine go_ret ?_
                simp -implicitDefEqProofs
        · intro c_23 p_23 h
          refine go_exit ?_
          simp -implicitDefEqProofs
          exact hE _ _ (Option.some.inj h).symm (wkN_of 0 [] (by simp [c_23]) (by simp) (by simp) (by simp) (by simp))
  · intro v E h hJ
    try simp -implicitDefEqProofs
    repeat (with_reducible refine And.intro (by omega) ?_)
    first | with_reducible refine selP_ite h (by first | exact Iff.rfl | omega | (simp; done) | (simp [Pin.eqi, Edge.eqi, Lattice.eqi, Arr3U8.eqi, Arr4I8.eqi, Arr2U8.eqi]; done) | fail) ?_ ?_ | with_reducible refine selP_ite2 h (by first | exact Iff.rfl | omega | (simp; done) | (simp [Pin.eqi, Edge.eqi, Lattice.eqi, Arr3U8.eqi, Arr4I8.eqi, Arr2U8.eqi]; done) | fail) ?_ ?_ | with_reducible refine selP_ite h (by first | (simp only [Pin.eqi, Edge.eqi, Lattice.eqi, Arr3U8.eqi, Arr4I8.eqi, Arr2U8.eqi]; grind) | grind | fail) ?_ ?_ | with_reducible refine selP_ite2 h (by first | (simp only [Pin.eqi, Edge.eqi, Lattice.eqi, Arr3U8.eqi, Arr4I8.eqi, Arr2U8.eqi]; grind) | grind | fail) ?_ ?_
    · intro c_11 p_11 h
      try simp -implicitDefEqProofs [c_11]
      repeat (with_reducible refine And.intro (by omega) ?_)
      first | with_reducible refine selP_ite h (by first | exact Iff.rfl | omega | (simp; done) | (simp [Pin.eqi, Edge.eqi, Lattice.eqi, Arr3U8.eqi, Arr4I8.eqi, Arr2U8.eqi]; done) | fail) ?_ ?_ | with_reducible refine selP_ite2 h (by first | exact Iff.rfl | omega | (simp; done) | (simp [Pin.eqi, Edge.eqi, Lattice.eqi, Arr3U8.eqi, Arr4I8.eqi, Arr2U8.eqi]; done) | fail) ?_ ?_ | with_reducible refine selP_ite h (by first | (simp only [Pin.eqi, Edge.eqi, Lattice.eqi, Arr3U8.eqi, Arr4I8.eqi, Arr2U8.eqi]; grind) | grind | fail) ?_ ?_ | with_reducible refine selP_ite2 h (by first | (simp only [Pin.eqi, Edge.eqi, Lattice.eqi, Arr3U8.eqi, Arr4I8.eqi, Arr2U8.eqi]; grind) | grind | fail) ?_ ?_
      · intro c_12 p_12 h
        obtain ⟨w51_13, hc, h⟩ := bind_elim h
        try simp -implicitDefEqProofs [c_12]
        repeat (with_reducible refine And.intro (by omega) ?_)
        refine runC_t (link_ref18_Valid hc) (by simp) ?_
        try simp -implicitDefEqProofs
        repeat (with_reducible refine And.intro (by omega) ?_)
        first | with_reducible refine selP_ite h (by first | exact Iff.rfl | omega | (simp; done) | (simp [Pin.eqi, Edge.eqi, Lattice.eqi, Arr3U8.eqi, Arr4I8.eqi, Arr2U8.eqi]; done) | fail) ?_ ?_ | with_reducible refine selP_ite2 h (by first | exact Iff.rfl | omega | (simp; done) | (simp [Pin.eqi, Edge.eqi, Lattice.eqi, Arr3U8.eqi, Arr4I8.eqi, Arr2U8.eqi]; done) | fail) ?_ ?_ | with_reducible refine selP_ite h (by first | (simp only [Pin.eqi, Edge.eqi, Lattice.eqi, Arr3U8.eqi, Arr4I8.eqi, Arr2U8.eqi]; grind) | grind | fail) ?_ ?_ | with_reducible refine selP_ite2 h (by first | (simp only [Pin.eqi, Edge.eqi, Lattice.eqi, Arr3U8.eqi, Arr4I8.eqi, Arr2U8.eqi]; grind) | grind | fail) ?_ ?_
        · intro c_14 p_14 h
          obtain ⟨w57_15, hc, h⟩ := bind_elim h
          try simp -implicitDefEqProofs [c_14]
          repeat (with_reducible refine And.intro (by omega) ?_)
          refine runC_t (link_ref18_Has hc) (by simp) ?_
          try simp -implicitDefEqProofs
          repeat (with_reducible refine And.intro (by omega) ?_)
          first | with_reducible refine selP_ite h (by first | exact Iff.rfl | omega | (simp; done) | (simp [Pin.eqi, Edge.eqi, Lattice.eqi, Arr3U8.eqi, Arr4I8.eqi, Arr2U8.eqi]; done) | fail) ?_ ?_ | with_reducible refine selP_ite2 h (by first | exact Iff.rfl | omega | (simp; done) | (simp [Pin.eqi, Edge.eqi, Lattice.eqi, Arr3U8.eqi, Arr4I8.eqi, Arr2U8.eqi]; done) | fail) ?_ ?_ | with_reducible refine selP_ite h (by first | (simp only [Pin.eqi, Edge.eqi, Lattice.eqi, Arr3U8.eqi, Arr4I8.eqi, Arr2U8.eqi]; grind) | grind | fail) ?_ ?_ | with_reducible refine selP_ite2 h (by first | (simp only [Pin.eqi, Edge.eqi, Lattice.eqi, Arr3U8.eqi, Arr4I8.eqi, Arr2U8.eqi]; grind) | grind | fail) ?_ ?_
          · intro c_16 p_16 h
            obtain ⟨w63_17, hc, h⟩ := bind_elim h
            try simp -implicitDefEqProofs [c_16]
            repeat (with_reducible refine And.intro (by omega) ?_)
            refine runC_t (link_ref18_Same hc) (by simp) ?_
            try simp -implicitDefEqProofs
            repeat (with_reducible refine And.intro (by omega) ?_)
            refine go_l ?_
            obtain rfl := Option.some.inj h
            exact hJ _ (wkN_of 0 [] (by simp [c_11, c_12]) (by simp [c_11, c_12]) (by simp) (by simp) (by simp))
          · intro c_16 p_16 h
            have q_16 := eq_false_of_ne_true c_16
            try simp -implicitDefEqProofs [q_16]
            repeat (with_reducible refine And.intro (by omega) ?_)
            refine go_l ?_
            obtain rfl := Option.some.inj h
            exact hJ _ (wkN_of 0 [] (by simp [c_11, c_12]) (by simp [c_11, c_12]) (by simp) (by simp) (by simp))
        · intro c_14 p_14 h
          have q_14 := eq_false_of_ne_true c_14
          try simp -implicitDefEqProofs [q_14]
          repeat (with_reducible refine And.intro (by omega) ?_)
          refine go_l ?_
          obtain rfl := Option.some.inj h
          exact hJ _ (wkN_of 0 [] (by simp [c_11, c_12]) (by simp [c_11, c_12]) (by simp) (by simp) (by simp))
      · intro c_12 p_12 h
        try simp -implicitDefEqProofs [c_12]
        repeat (with_reducible refine And.intro (by omega) ?_)
        refine go_l ?_
        obtain rfl := Option.some.inj h
        exact hJ _ (wkN_of 0 [] (by simp [c_11]) (by simp [c_11]) (by simp) (by simp) (by simp))
    · intro c_11 p_11 h
      try simp -implicitDefEqProofs [c_11]
      repeat (with_reducible refine And.intro (by omega) ?_)
      refine go_l ?_
      obtain rfl := Option.some.inj h
      exact hJ _ (wkN_of 0 [] (by simp) (by simp) (by simp) (by simp) (by simp))
def law18_PinWays_L1 (x2 : UInt8) (w38_10 : Lattice) : Int → Option (Int ⊕ (Bool ⊕ Unit)) := fun v12__16 =>
  if v12__16 < (w38_10.Edges.length : Int) then (
    (
      (
        chk (0 ≤ v12__16 ∧ v12__16 < (w38_10.Edges.length : Int)) <|
        if (at' w38_10.Edges v12__16).From < 0 then (
          some true
        ) else (
          if (at' w38_10.Edges v12__16).To ≤ (at' w38_10.Edges v12__16).From then (
            some true
          ) else (
            some (decide (1 + (rem (x2.toNat : Int) 5) < (at' w38_10.Edges v12__16).To))
          )
        )
      : Option (Bool))
    ).bind fun v90_18 =>
    if v90_18 = true then (
      some (.inr (.inl false))
    ) else (
      chk (-9223372036854775808 ≤ v12__16 + 1 ∧ v12__16 + 1 ≤ 9223372036854775807) <|
      some (.inl (v12__16 + 1))
    )
  ) else (
    some (.inr (.inr ()))
  )
def law18_PinWays_L2 (w32_8 : List Pin) (w92_30 : List (List Edge)) (v15__33 : Int) (v17__38 : Int) : (Bool × Int) → Option ((Bool × Int) ⊕ Bool) := fun (v18__42, v19__43) =>
  chk (0 ≤ v15__33 ∧ v15__33 < (w92_30.length : Int)) <|
  if v19__43 < ((at' w92_30 v15__33).length : Int) then (
    chk (0 ≤ v19__43 ∧ v19__43 < ((at' w92_30 v15__33).length : Int)) <|
    (
      (
        if v18__42 = true then (
          some true
        ) else (
          chk (0 ≤ v17__38 ∧ v17__38 < (w32_8.length : Int)) <|
          if (at' (at' w92_30 v15__33) v19__43).From = (at' w32_8 v17__38).From then (
            if (at' (at' w92_30 v15__33) v19__43).To = (at' w32_8 v17__38).To then (
              if (at' w32_8 v17__38).Word = (-1) then (
                some true
              ) else (
                some (decide ((at' w32_8 v17__38).Word = (at' (at' w92_30 v15__33) v19__43).Word))
              )
            ) else (
              some false
            )
          ) else (
            some false
          )
        )
      : Option (Bool))
    ).bind fun v18_54 =>
    chk (-9223372036854775808 ≤ v19__43 + 1 ∧ v19__43 + 1 ≤ 9223372036854775807) <|
    some (.inl (v18_54, v19__43 + 1))
  ) else (
    some (.inr v18__42)
  )
def law18_PinWays_L3 (w32_8 : List Pin) (w92_30 : List (List Edge)) (v15__33 : Int) : (Bool × Int) → Option ((Bool × Int) ⊕ Bool) := fun (v16__37, v17__38) =>
  if v17__38 < (w32_8.length : Int) then (
    (loop (law18_PinWays_L2 w32_8 w92_30 v15__33 v17__38) (false, 0)).bind fun v18_44 =>
    (
      (
        if v16__37 = true then (
          some v18_44
        ) else (
          some false
        )
      : Option (Bool))
    ).bind fun v16_67 =>
    chk (-9223372036854775808 ≤ v17__38 + 1 ∧ v17__38 + 1 ≤ 9223372036854775807) <|
    some (.inl (v16_67, v17__38 + 1))
  ) else (
    some (.inr v16__37)
  )
def law18_PinWays_L4 (w32_8 : List Pin) (w92_30 : List (List Edge)) : (List (List Edge) × Int) → Option ((List (List Edge) × Int) ⊕ ((List (List Edge)))) := fun (v14__32, v15__33) =>
  if v15__33 < (w92_30.length : Int) then (
    (loop (law18_PinWays_L3 w32_8 w92_30 v15__33) (true, 0)).bind fun v16_39 =>
    (
      (
        if v16_39 = true then (
          chk (0 ≤ v15__33 ∧ v15__33 < (w92_30.length : Int)) <|
          chk ((v14__32.length + ([at' w92_30 v15__33] : List (List Edge)).length) * 24 ≤ 140737488355328) <|
          some (v14__32 ++ [at' w92_30 v15__33])
        ) else (
          some v14__32
        )
      : Option (List (List Edge)))
    ).bind fun v14_74 =>
    chk (-9223372036854775808 ≤ v15__33 + 1 ∧ v15__33 + 1 ≤ 9223372036854775807) <|
    some (.inl (v14_74, v15__33 + 1))
  ) else (
    some (.inr v14__32)
  )
def law18_PinWays (x0 : List Arr3U8) (x1 : List Arr3U8) (x2 : UInt8) : Option Bool :=
  (law18_sanity).bind fun w21_1 =>
  chk (-9223372036854775808 ≤ 1 + (rem (x2.toNat : Int) 5) ∧ 1 + (rem (x2.toNat : Int) 5) ≤ 9223372036854775807) <|
  chk (0 ≤ min (x0.length : Int) 3 ∧ min (x0.length : Int) 3 ≤ (x0.length : Int)) <|
  (ref18_Made (sub x0 0 (min (x0.length : Int) 3)) (1 + (rem (x2.toNat : Int) 5))).bind fun w32_8 =>
  (ref18_Lattice x1 (1 + (rem (x2.toNat : Int) 5))).bind fun w35_9 =>
  (pin_Restrict w35_9 w32_8).bind fun w38_10 =>
  (
    (
      if w38_10.N = 1 + (rem (x2.toNat : Int) 5) then (
        some (decide ((w35_9.Edges.length : Int) < (w38_10.Edges.length : Int)))
      ) else (
        some true
      )
    : Option (Bool))
  ).bind fun v51_11 =>
  if v51_11 = true then (
    some false
  ) else (
    (loop (law18_PinWays_L1 x2 w38_10) 0).bind fun
    | .inl e => some e
    | .inr _ =>
    (ref18_Ways w35_9 0).bind fun w92_30 =>
    (loop (law18_PinWays_L4 w32_8 w92_30) ([], 0)).bind fun v14_34 =>
    (
      (
        if (w92_30.length : Int) = 300 then (
          some w21_1
        ) else (
          (ref18_Ways w38_10 0).bind fun w178_89 =>
          (ref18_SameWays w178_89 v14_34).bind fun w180_90 =>
          if w180_90 = true then (
            some w21_1
          ) else (
            some false
          )
        )
      : Option (Bool))
    ).bind fun v6_86 =>
    some v6_86
  )
theorem link_law18_PinWays {x0 : List Arr3U8} {x1 : List Arr3U8} {x2 : UInt8} {r : Bool} (h : law18_PinWays x0 x1 x2 = some r) : PCalls Try.prog 5 [.sl 3 (mp cArr3U8 x0) .lent, .sl 3 (mp cArr3U8 x1) .lent, .v (.int .u8 (x2.toNat : Int))] (.v (.bool r)) := by
  unfold law18_PinWays at h
  refine pcalls is5 na5 ?_
  try simp -implicitDefEqProofs
  refine go_seq ?_
  refine go_reg ?_
  try simp -implicitDefEqProofs
  repeat (with_reducible refine And.intro (by omega) ?_)
  refine go_seq ?_
  refine go_reg ?_
  obtain ⟨w21_1, hc, h⟩ := bind_elim h
  try simp -implicitDefEqProofs
  repeat (with_reducible refine And.intro (by omega) ?_)
  refine runC_t (link_law18_sanity hc) (by simp) ?_
  try simp -implicitDefEqProofs
  repeat (with_reducible refine And.intro (by omega) ?_)
  refine go_seq ?_
  refine go_reg ?_
  obtain ⟨⟨c_3, c_4⟩, h⟩ := chk_elim h
  try simp -implicitDefEqProofs [c_3, c_4]
  repeat (with_reducible refine And.intro (by omega) ?_)
  refine go_seq ?_
  refine go_reg ?_
  obtain ⟨⟨c_6, c_7⟩, h⟩ := chk_elim h
  try simp -implicitDefEqProofs
  repeat (with_reducible refine And.intro (by omega) ?_)
  refine runR_slc01 (k := .i64) cArr3U8 x0 (min (x0.length : Int) 3) .lent (by first | rfl | simp) (.inl rfl) (by first | rfl | simp) c_6 c_7 (by simp) ?_
  obtain ⟨w32_8, hc, h⟩ := bind_elim h
  try simp -implicitDefEqProofs
  repeat (with_reducible refine And.intro (by omega) ?_)
  refine runC_t (link_ref18_Made hc) (by simp) ?_
  obtain ⟨w35_9, hc, h⟩ := bind_elim h
  try simp -implicitDefEqProofs
  repeat (with_reducible refine And.intro (by omega) ?_)
  refine runC_t (link_ref18_Lattice hc) (by simp) ?_
  try simp -implicitDefEqProofs
  repeat (with_reducible refine And.intro (by omega) ?_)
  refine go_seq ?_
  refine go_reg ?_
  obtain ⟨w38_10, hc, h⟩ := bind_elim h
  try simp -implicitDefEqProofs
  repeat (with_reducible refine And.intro (by omega) ?_)
  refine runC_t (link_pin_Restrict hc) (by simp) ?_
  try simp -implicitDefEqProofs
  repeat (with_reducible refine And.intro (by omega) ?_)
  refine go_seq ?_
  refine go_seq ?_
  refine go_reg ?_
  refine run_join h [⟨.a, .e, .h⟩, ⟨.a, .f, .a⟩, ⟨.a, .f, .b⟩, ⟨.a, .f, .c⟩, ⟨.a, .f, .d⟩, ⟨.a, .f, .e⟩, ⟨.a, .f, .f⟩, ⟨.a, .f, .g⟩, ⟨.a, .f, .h⟩, ⟨.a, .g, .a⟩, ⟨.a, .g, .b⟩, ⟨.a, .g, .c⟩, ⟨.a, .g, .d⟩] (fun v51_11 => [(⟨.a, .g, .d⟩, .v (.bool v51_11))]) (fun v51_11 => [[.v (.int .i64 w35_9.N), .sl 4 (mp cEdge w35_9.Edges) .none], [.v (.int .i64 w38_10.N), .sl 4 (mp cEdge w38_10.Edges) .none]]) (fun v51_11 => []) (by repeat (first | exact soft_c | refine soft_b ?_)) ?_ ?_
  · rintro v51_11 h
    try dsimp only at h
    try simp -implicitDefEqProofs
    refine go_cond ?_
    try simp -implicitDefEqProofs
    repeat (with_reducible refine And.intro (by omega) ?_)
    first | with_reducible refine selP_ite h (by first | exact Iff.rfl | omega | (simp; done) | (simp [Pin.eqi, Edge.eqi, Lattice.eqi, Arr3U8.eqi, Arr4I8.eqi, Arr2U8.eqi]; done) | fail) ?_ ?_ | with_reducible refine selP_ite2 h (by first | exact Iff.rfl | omega | (simp; done) | (simp [Pin.eqi, Edge.eqi, Lattice.eqi, Arr3U8.eqi, Arr4I8.eqi, Arr2U8.eqi]; done) | fail) ?_ ?_ | with_reducible refine selP_ite h (by first | (simp only [Pin.eqi, Edge.eqi, Lattice.eqi, Arr3U8.eqi, Arr4I8.eqi, Arr2U8.eqi]; grind) | grind | fail) ?_ ?_ | with_reducible refine selP_ite2 h (by first | (simp only [Pin.eqi, Edge.eqi, Lattice.eqi, Arr3U8.eqi, Arr4I8.eqi, Arr2U8.eqi]; grind) | grind | fail) ?_ ?_
    · intro c_14 p_14 h
      refine go_seq ?_
      refine go_reg ?_
      try simp -implicitDefEqProofs [c_14]
      repeat (with_reducible refine And.intro (by omega) ?_)
      obtain rfl := Option.some.inj h
      refine go_ret ?_
      simp -implicitDefEqProofs
    · intro c_14 p_14 h
      have q_14 := eq_false_of_ne_true c_14
      refine go_skip ?_
      refine go_seq ?_
      refine go_seq ?_
      refine go_reg ?_
      try simp -implicitDefEqProofs [q_14]
      repeat (with_reducible refine And.intro (by omega) ?_)
      refine go_block ?_
      obtain ⟨rr_93, h, hn_15⟩ := bind_elim h
      refine go_loop (ε := Unit) h 0 (fun e => .inr e) (fun v12__16 => [(⟨.a, .b, .e⟩, .v (.int .i64 v12__16))]) (fun v12__16 => [[.v (.int .i64 w35_9.N), .sl 4 (mp cEdge w35_9.Edges) .none], [.v (.int .i64 w38_10.N), .sl 4 (mp cEdge w38_10.Edges) .none]]) (fun v12__16 => []) (fun _ => []) (fun _ => [[.v (.int .i64 w35_9.N), .sl 4 (mp cEdge w35_9.Edges) .none], [.v (.int .i64 w38_10.N), .sl 4 (mp cEdge w38_10.Edges) .none]]) (fun _ => []) (wkN_of 0 [] (by simp) (by simp) (by simp) (by simp) (by simp)) ?_ ?_
      · rintro ⟨⟩ hq
        try simp -implicitDefEqProofs
        have h := hn_15
        rw [hq] at h
        try dsimp only at h
        refine go_seq ?_
        refine go_reg ?_
        obtain ⟨w92_30, hc, h⟩ := bind_elim h
        try simp -implicitDefEqProofs
        repeat (with_reducible refine And.intro (by omega) ?_)
        refine runC_t (link_ref18_Ways hc) (by simp) ?_
        try simp -implicitDefEqProofs
        repeat (with_reducible refine And.intro (by omega) ?_)
        refine go_seq ?_
        refine go_seq ?_
        refine go_reg ?_
        try simp -implicitDefEqProofs
        repeat (with_reducible refine And.intro (by omega) ?_)
        refine go_block ?_
        obtain ⟨rr_92, h, hn_31⟩ := bind_elim h
        refine go_loop (ε := List (List Edge)) h 2 (fun e => e) (fun (v14__32, v15__33) => [(⟨.a, .b, .g⟩, .sl 1 (mp cLEdge v14__32) (.id 0)), (⟨.a, .b, .h⟩, .v (.int .i64 v15__33))]) (fun (v14__32, v15__33) => [[.v (.int .i64 w35_9.N), .sl 4 (mp cEdge w35_9.Edges) .none], [.v (.int .i64 w38_10.N), .sl 4 (mp cEdge w38_10.Edges) .none]]) (fun (v14__32, v15__33) => [(v14__32).length]) (fun v14_34 => [(⟨.a, .b, .g⟩, .sl 1 (mp cLEdge v14_34) (.id 0))]) (fun v14_34 => [[.v (.int .i64 w35_9.N), .sl 4 (mp cEdge w35_9.Edges) .none], [.v (.int .i64 w38_10.N), .sl 4 (mp cEdge w38_10.Edges) .none]]) (fun v14_34 => [(v14_34).length]) (wkN_of 0 [0] (by simp) (by simp) (by simp) (by simp) (by simp)) ?_ ?_
        · rintro v14_34 hq
          try simp -implicitDefEqProofs
          have h := hn_31
          rw [hq] at h
          try dsimp only at h
          refine go_seq ?_
          refine go_reg ?_
          refine run_join h [⟨.a, .a, .g⟩, ⟨.c, .f, .f⟩, ⟨.c, .f, .g⟩, ⟨.c, .f, .h⟩, ⟨.c, .g, .a⟩, ⟨.c, .g, .b⟩, ⟨.c, .g, .c⟩, ⟨.c, .g, .d⟩, ⟨.c, .g, .e⟩, ⟨.c, .g, .f⟩, ⟨.c, .g, .g⟩, ⟨.c, .g, .h⟩, ⟨.c, .h, .a⟩] (fun v6_86 => [(⟨.a, .a, .g⟩, .v (.bool v6_86))]) (fun v6_86 => [[.v (.int .i64 w35_9.N), .sl 4 (mp cEdge w35_9.Edges) .none], [.v (.int .i64 w38_10.N), .sl 4 (mp cEdge w38_10.Edges) .none]]) (fun v6_86 => [(v14_34).length]) (by repeat (first | exact soft_c | refine soft_b ?_)) ?_ ?_
          · rintro v6_86 h
            try dsimp only at h
            try simp -implicitDefEqProofs
            obtain rfl := Option.some.inj h
            refine go_ret ?_
            simp -implicitDefEqProofs
          · intro v E h hJ
            try simp -implicitDefEqProofs
            repeat (with_reducible refine And.intro (by omega) ?_)
            first | with_reducible refine selP_ite h (by first | exact Iff.rfl | omega | (simp; done) | (simp [Pin.eqi, Edge.eqi, Lattice.eqi, Arr3U8.eqi, Arr4I8.eqi, Arr2U8.eqi]; done) | fail) ?_ ?_ | with_reducible refine selP_ite2 h (by first | exact Iff.rfl | omega | (simp; done) | (simp [Pin.eqi, Edge.eqi, Lattice.eqi, Arr3U8.eqi, Arr4I8.eqi, Arr2U8.eqi]; done) | fail) ?_ ?_ | with_reducible refine selP_ite h (by first | (simp only [Pin.eqi, Edge.eqi, Lattice.eqi, Arr3U8.eqi, Arr4I8.eqi, Arr2U8.eqi]; grind) | grind | fail) ?_ ?_ | with_reducible refine selP_ite2 h (by first | (simp only [Pin.eqi, Edge.eqi, Lattice.eqi, Arr3U8.eqi, Arr4I8.eqi, Arr2U8.eqi]; grind) | grind | fail) ?_ ?_
            · intro c_88 p_88 h
              try simp -implicitDefEqProofs [c_88]
              repeat (with_reducible refine And.intro (by omega) ?_)
              refine go_l ?_
              obtain rfl := Option.some.inj h
              exact hJ _ (wkN_of 1 [] (by simp) (by simp) (by simp) (by simp) (by simp))
            · intro c_88 p_88 h
              obtain ⟨w178_89, hc, h⟩ := bind_elim h
              try simp -implicitDefEqProofs [c_88]
              repeat (with_reducible refine And.intro (by omega) ?_)
              refine runC_t (link_ref18_Ways hc) (by simp) ?_
              obtain ⟨w180_90, hc, h⟩ := bind_elim h
              try simp -implicitDefEqProofs
              repeat (with_reducible refine And.intro (by omega) ?_)
              refine runC_t (link_ref18_SameWays hc) (by simp) ?_
              try simp -implicitDefEqProofs
              repeat (with_reducible refine And.intro (by omega) ?_)
              first | with_reducible refine selP_ite h (by first | exact Iff.rfl | omega | (simp; done) | (simp [Pin.eqi, Edge.eqi, Lattice.eqi, Arr3U8.eqi, Arr4I8.eqi, Arr2U8.eqi]; done) | fail) ?_ ?_ | with_reducible refine selP_ite2 h (by first | exact Iff.rfl | omega | (simp; done) | (simp [Pin.eqi, Edge.eqi, Lattice.eqi, Arr3U8.eqi, Arr4I8.eqi, Arr2U8.eqi]; done) | fail) ?_ ?_ | with_reducible refine selP_ite h (by first | (simp only [Pin.eqi, Edge.eqi, Lattice.eqi, Arr3U8.eqi, Arr4I8.eqi, Arr2U8.eqi]; grind) | grind | fail) ?_ ?_ | with_reducible refine selP_ite2 h (by first | (simp only [Pin.eqi, Edge.eqi, Lattice.eqi, Arr3U8.eqi, Arr4I8.eqi, Arr2U8.eqi]; grind) | grind | fail) ?_ ?_
              · intro c_91 p_91 h
                try simp -implicitDefEqProofs [c_91]
                repeat (with_reducible refine And.intro (by omega) ?_)
                refine go_l ?_
                obtain rfl := Option.some.inj h
                exact hJ _ (wkN_of 1 [] (by simp) (by simp) (by simp) (by simp) (by simp))
              · intro c_91 p_91 h
                have q_91 := eq_false_of_ne_true c_91
                try simp -implicitDefEqProofs [q_91]
                repeat (with_reducible refine And.intro (by omega) ?_)
                refine go_l ?_
                obtain rfl := Option.some.inj h
                exact hJ _ (wkN_of 1 [] (by simp) (by simp) (by simp) (by simp) (by simp))
        · rintro ⟨v14__32, v15__33⟩ o B' E' h hB hE hR
          simp only [law18_PinWays_L4] at h
          simp -implicitDefEqProofs
          refine go_seq ?_
          refine go_seq ?_
          refine go_reg ?_
          try simp -implicitDefEqProofs
          repeat (with_reducible refine And.intro (by omega) ?_)
          refine go_cond ?_
          try simp -implicitDefEqProofs
          repeat (with_reducible refine And.intro (by omega) ?_)
          first | with_reducible refine selP_ite h (by first | exact Iff.rfl | omega | (simp; done) | (simp [Pin.eqi, Edge.eqi, Lattice.eqi, Arr3U8.eqi, Arr4I8.eqi, Arr2U8.eqi]; done) | fail) ?_ ?_ | with_reducible refine selP_ite2 h (by first | exact Iff.rfl | omega | (simp; done) | (simp [Pin.eqi, Edge.eqi, Lattice.eqi, Arr3U8.eqi, Arr4I8.eqi, Arr2U8.eqi]; done) | fail) ?_ ?_ | with_reducible refine selP_ite h (by first | (simp only [Pin.eqi, Edge.eqi, Lattice.eqi, Arr3U8.eqi, Arr4I8.eqi, Arr2U8.eqi]; grind) | grind | fail) ?_ ?_ | with_reducible refine selP_ite2 h (by first | (simp only [Pin.eqi, Edge.eqi, Lattice.eqi, Arr3U8.eqi, Arr4I8.eqi, Arr2U8.eqi]; grind) | grind | fail) ?_ ?_
          · intro c_35 p_35 h
            refine go_skip ?_
            refine go_seq ?_
            refine go_block ?_
            refine go_seq ?_
            refine go_reg ?_
            try simp -implicitDefEqProofs [c_35]
            repeat (with_reducible refine And.intro (by omega) ?_)
            refine go_seq ?_
            refine go_seq ?_
            refine go_reg ?_
            try simp -implicitDefEqProofs
            repeat (with_reducible refine And.intro (by omega) ?_)
            refine go_block ?_
            obtain ⟨rr_85, h, hn_36⟩ := bind_elim h
            refine go_loop (ε := Bool) h 4 (fun e => e) (fun (v16__37, v17__38) => [(⟨.a, .c, .a⟩, .v (.bool v16__37)), (⟨.a, .c, .b⟩, .v (.int .i64 v17__38))]) (fun (v16__37, v17__38) => [[.v (.int .i64 w35_9.N), .sl 4 (mp cEdge w35_9.Edges) .none], [.v (.int .i64 w38_10.N), .sl 4 (mp cEdge w38_10.Edges) .none]]) (fun (v16__37, v17__38) => [(v14__32).length]) (fun v16_39 => [(⟨.a, .c, .a⟩, .v (.bool v16_39))]) (fun v16_39 => [[.v (.int .i64 w35_9.N), .sl 4 (mp cEdge w35_9.Edges) .none], [.v (.int .i64 w38_10.N), .sl 4 (mp cEdge w38_10.Edges) .none]]) (fun v16_39 => [(v14__32).length]) (wkN_of 1 [] (by simp) (by simp) (by simp) (by simp) (by simp)) ?_ ?_
            · rintro v16_39 hq
              try simp -implicitDefEqProofs
              have h := hn_36
              rw [hq] at h
              try dsimp only at h
              refine go_seq ?_
              refine go_reg ?_
              try simp -implicitDefEqProofs
              repeat (with_reducible refine And.intro (by omega) ?_)
              refine go_join h [⟨.a, .b, .g⟩, ⟨.c, .e, .g⟩, ⟨.c, .e, .h⟩, ⟨.c, .f, .a⟩, ⟨.c, .f, .b⟩, ⟨.c, .f, .c⟩, ⟨.c, .f, .d⟩, ⟨.c, .f, .e⟩] (fun v14_74 => [(⟨.a, .b, .g⟩, .sl 1 (mp cLEdge v14_74) (.id 0))]) (fun v14_74 => [[.v (.int .i64 w35_9.N), .sl 4 (mp cEdge w35_9.Edges) .none], [.v (.int .i64 w38_10.N), .sl 4 (mp cEdge w38_10.Edges) .none]]) (fun v14_74 => [(v14_74).length]) (by repeat (first | exact soft_c | refine soft_b ?_)) ?_ ?_
              · rintro v14_74 h
                try dsimp only at h
                try simp -implicitDefEqProofs
                refine go_b ?_
                refine go_reg ?_
                obtain ⟨⟨c_83, c_84⟩, h⟩ := chk_elim h
                try simp -implicitDefEqProofs [c_83, c_84]
                repeat (with_reducible refine And.intro (by omega) ?_)
                refine go_l ?_
                exact hB _ _ (Option.some.inj h).symm (wkN_of 1 [] (by simp) (by simp) (by simp) (by simp) (by simp))
              · intro v E h hJ
                refine go_cond ?_
                try simp -implicitDefEqProofs
                repeat (with_reducible refine And.intro (by omega) ?_)
                first | with_reducible refine selP_ite h (by first | exact Iff.rfl | omega | (simp; done) | (simp [Pin.eqi, Edge.eqi, Lattice.eqi, Arr3U8.eqi, Arr4I8.eqi, Arr2U8.eqi]; done) | fail) ?_ ?_ | with_reducible refine selP_ite2 h (by first | exact Iff.rfl | omega | (simp; done) | (simp [Pin.eqi, Edge.eqi, Lattice.eqi, Arr3U8.eqi, Arr4I8.eqi, Arr2U8.eqi]; done) | fail) ?_ ?_ | with_reducible refine selP_ite h (by first | (simp only [Pin.eqi, Edge.eqi, Lattice.eqi, Arr3U8.eqi, Arr4I8.eqi, Arr2U8.eqi]; grind) | grind | fail) ?_ ?_ | with_reducible refine selP_ite2 h (by first | (simp only [Pin.eqi, Edge.eqi, Lattice.eqi, Arr3U8.eqi, Arr4I8.eqi, Arr2U8.eqi]; grind) | grind | fail) ?_ ?_
                · intro c_76 p_76 h
                  refine go_reg ?_
                  obtain ⟨⟨c_78, c_79⟩, h⟩ := chk_elim h
                  have k_80 := toNat_lt c_78 c_79
                  obtain ⟨c_81, h⟩ := chk_elim h
                  try simp -implicitDefEqProofs [c_35, c_76, c_78, k_80]
                  repeat (with_reducible refine And.intro (by omega) ?_)
                  refine runR_apiT cLEdge v14__32 [at' w92_30 v15__33] (by first | rfl | simp) (elems_mp cLEdge _ _ [at' w92_30 v15__33] _) (by simp) c_81 ?_ (by decide)
                  try simp -implicitDefEqProofs
                  repeat (with_reducible refine And.intro (by omega) ?_)
                  refine go_l ?_
                  obtain rfl := Option.some.inj h
                  exact hJ _ (wkN_of 1 [] (by simp [c_76]) (by simp [c_76]) (by simp) (by simp) (by simp))
                · intro c_76 p_76 h
                  have q_76 := eq_false_of_ne_true c_76
                  refine go_skip ?_
                  refine go_l ?_
                  obtain rfl := Option.some.inj h
                  exact hJ _ (wkN_of 1 [] (by simp [c_76]) (by simp [c_76]) (by simp) (by simp) (by simp))
            · rintro ⟨v16__37, v17__38⟩ o B' E' h hB hE hR
              simp only [law18_PinWays_L3] at h
              simp -implicitDefEqProofs
              refine go_seq ?_
              refine go_seq ?_
              refine go_reg ?_
              try simp -implicitDefEqProofs
              repeat (with_reducible refine And.intro (by omega) ?_)
              refine go_cond ?_
              try simp -implicitDefEqProofs
              repeat (with_reducible refine And.intro (by omega) ?_)
              first | with_reducible refine selP_ite h (by first | exact Iff.rfl | omega | (simp; done) | (simp [Pin.eqi, Edge.eqi, Lattice.eqi, Arr3U8.eqi, Arr4I8.eqi, Arr2U8.eqi]; done) | fail) ?_ ?_ | with_reducible refine selP_ite2 h (by first | exact Iff.rfl | omega | (simp; done) | (simp [Pin.eqi, Edge.eqi, Lattice.eqi, Arr3U8.eqi, Arr4I8.eqi, Arr2U8.eqi]; done) | fail) ?_ ?_ | with_reducible refine selP_ite h (by first | (simp only [Pin.eqi, Edge.eqi, Lattice.eqi, Arr3U8.eqi, Arr4I8.eqi, Arr2U8.eqi]; grind) | grind | fail) ?_ ?_ | with_reducible refine selP_ite2 h (by first | (simp only [Pin.eqi, Edge.eqi, Lattice.eqi, Arr3U8.eqi, Arr4I8.eqi, Arr2U8.eqi]; grind) | grind | fail) ?_ ?_
              · intro c_40 p_40 h
                refine go_skip ?_
                refine go_seq ?_
                refine go_block ?_
                refine go_seq ?_
                refine go_reg ?_
                try simp -implicitDefEqProofs [c_40]
                repeat (with_reducible refine And.intro (by omega) ?_)
                refine go_seq ?_
                refine go_seq ?_
                refine go_reg ?_
                try simp -implicitDefEqProofs
                repeat (with_reducible refine And.intro (by omega) ?_)
                refine go_block ?_
                obtain ⟨rr_73, h, hn_41⟩ := bind_elim h
                refine go_loop (ε := Bool) h 6 (fun e => e) (fun (v18__42, v19__43) => [(⟨.a, .c, .c⟩, .v (.bool v18__42)), (⟨.a, .c, .d⟩, .v (.int .i64 v19__43))]) (fun (v18__42, v19__43) => [[.v (.int .i64 w35_9.N), .sl 4 (mp cEdge w35_9.Edges) .none], [.v (.int .i64 w38_10.N), .sl 4 (mp cEdge w38_10.Edges) .none]]) (fun (v18__42, v19__43) => [(v14__32).length]) (fun v18_44 => [(⟨.a, .c, .c⟩, .v (.bool v18_44))]) (fun v18_44 => [[.v (.int .i64 w35_9.N), .sl 4 (mp cEdge w35_9.Edges) .none], [.v (.int .i64 w38_10.N), .sl 4 (mp cEdge w38_10.Edges) .none]]) (fun v18_44 => [(v14__32).length]) (wkN_of 1 [] (by simp) (by simp) (by simp) (by simp) (by simp)) ?_ ?_
                · rintro v18_44 hq
                  try simp -implicitDefEqProofs
                  have h := hn_41
                  rw [hq] at h
                  try dsimp only at h
                  refine go_reg ?_
                  refine run_join h [⟨.a, .c, .a⟩, ⟨.c, .e, .b⟩, ⟨.c, .e, .c⟩, ⟨.c, .e, .d⟩, ⟨.c, .e, .e⟩] (fun v16_67 => [(⟨.a, .c, .a⟩, .v (.bool v16_67))]) (fun v16_67 => [[.v (.int .i64 w35_9.N), .sl 4 (mp cEdge w35_9.Edges) .none], [.v (.int .i64 w38_10.N), .sl 4 (mp cEdge w38_10.Edges) .none]]) (fun v16_67 => [(v14__32).length]) (by repeat (first | exact soft_c | refine soft_b ?_)) ?_ ?_
                  · rintro v16_67 h
                    try dsimp only at h
                    try simp -implicitDefEqProofs
                    refine go_b ?_
                    refine go_reg ?_
                    obtain ⟨⟨c_71, c_72⟩, h⟩ := chk_elim h
                    try simp -implicitDefEqProofs [c_71, c_72]
                    repeat (with_reducible refine And.intro (by omega) ?_)
                    refine go_l ?_
                    exact hB _ _ (Option.some.inj h).symm (wkN_of 1 [] (by simp) (by simp) (by simp) (by simp) (by simp))
                  · intro v E h hJ
                    try simp -implicitDefEqProofs
                    repeat (with_reducible refine And.intro (by omega) ?_)
                    first | with_reducible refine selP_ite h (by first | exact Iff.rfl | omega | (simp; done) | (simp [Pin.eqi, Edge.eqi, Lattice.eqi, Arr3U8.eqi, Arr4I8.eqi, Arr2U8.eqi]; done) | fail) ?_ ?_ | with_reducible refine selP_ite2 h (by first | exact Iff.rfl | omega | (simp; done) | (simp [Pin.eqi, Edge.eqi, Lattice.eqi, Arr3U8.eqi, Arr4I8.eqi, Arr2U8.eqi]; done) | fail) ?_ ?_ | with_reducible refine selP_ite h (by first | (simp only [Pin.eqi, Edge.eqi, Lattice.eqi, Arr3U8.eqi, Arr4I8.eqi, Arr2U8.eqi]; grind) | grind | fail) ?_ ?_ | with_reducible refine selP_ite2 h (by first | (simp only [Pin.eqi, Edge.eqi, Lattice.eqi, Arr3U8.eqi, Arr4I8.eqi, Arr2U8.eqi]; grind) | grind | fail) ?_ ?_
                    · intro c_69 p_69 h
                      try simp -implicitDefEqProofs [c_69]
                      repeat (with_reducible refine And.intro (by omega) ?_)
                      refine go_l ?_
                      obtain rfl := Option.some.inj h
                      exact hJ _ (wkN_of 1 [] (by simp [c_69]) (by simp [c_69]) (by simp) (by simp) (by simp))
                    · intro c_69 p_69 h
                      have q_69 := eq_false_of_ne_true c_69
                      try simp -implicitDefEqProofs [q_69]
                      repeat (with_reducible refine And.intro (by omega) ?_)
                      refine go_l ?_
                      obtain rfl := Option.some.inj h
                      exact hJ _ (wkN_of 1 [] (by simp [c_69]) (by simp [c_69]) (by simp) (by simp) (by simp))
                · rintro ⟨v18__42, v19__43⟩ o B' E' h hB hE hR
                  simp only [law18_PinWays_L2] at h
                  simp -implicitDefEqProofs
                  refine go_seq ?_
                  refine go_seq ?_
                  refine go_reg ?_
                  obtain ⟨⟨c_46, c_47⟩, h⟩ := chk_elim h
                  have k_48 := toNat_lt c_46 c_47
                  try simp -implicitDefEqProofs [c_46, c_47, k_48]
                  repeat (with_reducible refine And.intro (by omega) ?_)
                  refine go_cond ?_
                  try simp -implicitDefEqProofs
                  repeat (with_reducible refine And.intro (by omega) ?_)
                  first | with_reducible refine selP_ite h (by first | exact Iff.rfl | omega | (simp; done) | (simp [Pin.eqi, Edge.eqi, Lattice.eqi, Arr3U8.eqi, Arr4I8.eqi, Arr2U8.eqi]; done) | fail) ?_ ?_ | with_reducible refine selP_ite2 h (by first | exact Iff.rfl | omega | (simp; done) | (simp [Pin.eqi, Edge.eqi, Lattice.eqi, Arr3U8.eqi, Arr4I8.eqi, Arr2U8.eqi]; done) | fail) ?_ ?_ | with_reducible refine selP_ite h (by first | (simp only [Pin.eqi, Edge.eqi, Lattice.eqi, Arr3U8.eqi, Arr4I8.eqi, Arr2U8.eqi]; grind) | grind | fail) ?_ ?_ | with_reducible refine selP_ite2 h (by first | (simp only [Pin.eqi, Edge.eqi, Lattice.eqi, Arr3U8.eqi, Arr4I8.eqi, Arr2U8.eqi]; grind) | grind | fail) ?_ ?_
                  · intro c_49 p_49 h
                    refine go_skip ?_
                    refine go_seq ?_
                    refine go_block ?_
                    refine go_seq ?_
                    refine go_reg ?_
                    obtain ⟨⟨c_51, c_52⟩, h⟩ := chk_elim h
                    have k_53 := toNat_lt c_51 c_52
                    try simp -implicitDefEqProofs [c_46, c_47, k_48, c_49, c_51, k_53]
                    repeat (with_reducible refine And.intro (by omega) ?_)
                    refine go_reg ?_
                    refine run_join h [⟨.a, .c, .c⟩, ⟨.b, .h, .c⟩, ⟨.b, .h, .d⟩, ⟨.b, .h, .e⟩, ⟨.b, .h, .f⟩, ⟨.b, .h, .g⟩, ⟨.b, .h, .h⟩, ⟨.c, .a, .a⟩, ⟨.c, .a, .b⟩, ⟨.c, .a, .c⟩, ⟨.c, .a, .d⟩, ⟨.c, .a, .e⟩, ⟨.c, .a, .f⟩, ⟨.c, .a, .g⟩, ⟨.c, .a, .h⟩, ⟨.c, .b, .a⟩, ⟨.c, .b, .b⟩, ⟨.c, .b, .c⟩, ⟨.c, .b, .d⟩, ⟨.c, .b, .e⟩, ⟨.c, .b, .f⟩, ⟨.c, .b, .g⟩, ⟨.c, .b, .h⟩, ⟨.c, .c, .a⟩, ⟨.c, .c, .b⟩, ⟨.c, .c, .c⟩, ⟨.c, .c, .d⟩, ⟨.c, .c, .e⟩, ⟨.c, .c, .f⟩, ⟨.c, .c, .g⟩, ⟨.c, .c, .h⟩, ⟨.c, .d, .a⟩, ⟨.c, .d, .b⟩, ⟨.c, .d, .c⟩, ⟨.c, .d, .d⟩, ⟨.c, .d, .e⟩, ⟨.c, .d, .f⟩, ⟨.c, .d, .g⟩, ⟨.c, .d, .h⟩, ⟨.c, .e, .a⟩] (fun v18_54 => [(⟨.a, .c, .c⟩, .v (.bool v18_54))]) (fun v18_54 => [[.v (.int .i64 w35_9.N), .sl 4 (mp cEdge w35_9.Edges) .none], [.v (.int .i64 w38_10.N), .sl 4 (mp cEdge w38_10.Edges) .none], [.v (.int .i64 ((at' (at' w92_30 v15__33) v19__43).From)), .v (.int .i64 ((at' (at' w92_30 v15__33) v19__43).To)), .v (.int .i64 ((at' (at' w92_30 v15__33) v19__43).Word)), .v (.int .i64 ((at' (at' w92_30 v15__33) v19__43).Cost))]]) (fun v18_54 => [(v14__32).length]) (by repeat (first | exact soft_c | refine soft_b ?_)) ?_ ?_
                    · rintro v18_54 h
                      try dsimp only at h
                      try simp -implicitDefEqProofs
                      refine go_b ?_
                      refine go_reg ?_
                      obtain ⟨⟨c_65, c_66⟩, h⟩ := chk_elim h
                      try simp -implicitDefEqProofs [c_65, c_66]
                      repeat (with_reducible refine And.intro (by omega) ?_)
                      refine go_l ?_
                      exact hB _ _ (Option.some.inj h).symm (wkN_of 1 [] (by simp) (by simp) (by simp) (by simp) (by simp))
                    · intro v E h hJ
                      try simp -implicitDefEqProofs
                      repeat (with_reducible refine And.intro (by omega) ?_)
                      first | with_reducible refine selP_ite h (by first | exact Iff.rfl | omega | (simp; done) | (simp; done) | fail) ?_ ?_ | with_reducible refine selP_ite2 h (by first | exact Iff.rfl | omega | (simp; done) | (simp [Pin.eqi, Edge.eqi, Lattice.eqi, Arr3U8.eqi, Arr4I8.eqi, Arr2U8.eqi]; done) | fail) ?_ ?_ | with_reducible refine selP_ite h (by first | (simp only [Pin.eqi, Edge.eqi, Lattice.eqi, Arr3U8.eqi, Arr4I8.eqi, Arr2U8.eqi]; grind) | grind | fail) ?_ ?_ | with_reducible refine selP_ite2 h (by first | (simp only [Pin.eqi, Edge.eqi, Lattice.eqi, Arr3U8.eqi, Arr4I8.eqi, Arr2U8.eqi]; grind) | grind | fail) ?_ ?_
                      · intro c_56 p_56 h
                        try simp -implicitDefEqProofs [c_56]
                        repeat (with_reducible refine And.intro (by omega) ?_)
                        refine go_l ?_
                        obtain rfl := Option.some.inj h
                        exact hJ _ (wkN_of 1 [] (by simp [c_56]) (by simp [c_56]) (by simp) (by simp) (by simp))
                      · intro c_56 p_56 h
                        have q_56 := eq_false_of_ne_true c_56
                        obtain ⟨⟨c_58, c_59⟩, h⟩ := chk_elim h
                        have k_60 := toNat_lt c_58 c_59
                        try simp -implicitDefEqProofs [p_56, c_58, c_59, k_60]
                        repeat (with_reducible refine And.intro (by omega) ?_)
                        first | with_reducible refine selP_ite h (by first | exact Iff.rfl | omega | (simp; done) | (simp [Pin.eqi, Edge.eqi, Lattice.eqi, Arr3U8.eqi, Arr4I8.eqi, Arr2U8.eqi]; done) | fail) ?_ ?_ | with_reducible refine selP_ite2 h (by first | exact Iff.rfl | omega | (simp; done) | (simp [Pin.eqi, Edge.eqi, Lattice.eqi, Arr3U8.eqi, Arr4I8.eqi, Arr2U8.eqi]; done) | fail) ?_ ?_ | with_reducible refine selP_ite h (by first | (simp only [Pin.eqi, Edge.eqi, Lattice.eqi, Arr3U8.eqi, Arr4I8.eqi, Arr2U8.eqi]; grind) | grind | fail) ?_ ?_ | with_reducible refine selP_ite2 h (by first | (simp only [Pin.eqi, Edge.eqi, Lattice.eqi, Arr3U8.eqi, Arr4I8.eqi, Arr2U8.eqi]; grind) | grind | fail) ?_ ?_
                        · intro c_61 p_61 h
                          try simp -implicitDefEqProofs [c_58, c_59, k_60, c_61]
                          repeat (with_reducible refine And.intro (by omega) ?_)
                          first | with_reducible refine selP_ite h (by first | exact Iff.rfl | omega | (simp; done) | (simp [Pin.eqi, Edge.eqi, Lattice.eqi, Arr3U8.eqi, Arr4I8.eqi, Arr2U8.eqi]; done) | fail) ?_ ?_ | with_reducible refine selP_ite2 h (by first | exact Iff.rfl | omega | (simp; done) | (simp [Pin.eqi, Edge.eqi, Lattice.eqi, Arr3U8.eqi, Arr4I8.eqi, Arr2U8.eqi]; done) | fail) ?_ ?_ | with_reducible refine selP_ite h (by first | (simp only [Pin.eqi, Edge.eqi, Lattice.eqi, Arr3U8.eqi, Arr4I8.eqi, Arr2U8.eqi]; grind) | grind | fail) ?_ ?_ | with_reducible refine selP_ite2 h (by first | (simp only [Pin.eqi, Edge.eqi, Lattice.eqi, Arr3U8.eqi, Arr4I8.eqi, Arr2U8.eqi]; grind) | grind | fail) ?_ ?_
                          · intro c_62 p_62 h
                            try simp -implicitDefEqProofs [c_58, c_59, k_60, c_62]
                            repeat (with_reducible refine And.intro (by omega) ?_)
                            first | with_reducible refine selP_ite h (by first | exact Iff.rfl | omega | (simp; done) | (simp [Pin.eqi, Edge.eqi, Lattice.eqi, Arr3U8.eqi, Arr4I8.eqi, Arr2U8.eqi]; done) | fail) ?_ ?_ | with_reducible refine selP_ite2 h (by first | exact Iff.rfl | omega | (simp; done) | (simp [Pin.eqi, Edge.eqi, Lattice.eqi, Arr3U8.eqi, Arr4I8.eqi, Arr2U8.eqi]; done) | fail) ?_ ?_ | with_reducible refine selP_ite h (by first | (simp only [Pin.eqi, Edge.eqi, Lattice.eqi, Arr3U8.eqi, Arr4I8.eqi, Arr2U8.eqi]; grind) | grind | fail) ?_ ?_ | with_reducible refine selP_ite2 h (by first | (simp only [Pin.eqi, Edge.eqi, Lattice.eqi, Arr3U8.eqi, Arr4I8.eqi, Arr2U8.eqi]; grind) | grind | fail) ?_ ?_
                            · intro c_63 p_63 h
                              try simp -implicitDefEqProofs [c_63]
                              repeat (with_reducible refine And.intro (by omega) ?_)
                              refine go_l ?_
                              obtain rfl := Option.some.inj h
                              exact hJ _ (wkN_of 1 [] (by simp [c_56, c_61, c_62]) (by simp [c_56, c_61, c_62]) (by simp) (by simp) (by simp))
                            · intro c_63 p_63 h
                              try simp -implicitDefEqProofs [c_58, c_59, k_60, c_63]
                              repeat (with_reducible refine And.intro (by omega) ?_)
                              refine go_l ?_
                              obtain rfl := Option.some.inj h
                              exact hJ _ (wkN_of 1 [] (by simp [c_56, c_61, c_62]) (by simp [c_56, c_61, c_62]) (by simp) (by simp) (by simp))
                          · intro c_62 p_62 h
                            try simp -implicitDefEqProofs [c_62]
                            repeat (with_reducible refine And.intro (by omega) ?_)
                            refine go_l ?_
                            obtain rfl := Option.some.inj h
                            exact hJ _ (wkN_of 1 [] (by simp [c_56, c_61]) (by simp [c_56, c_61]) (by simp) (by simp) (by simp))
                        · intro c_61 p_61 h
                          try simp -implicitDefEqProofs [c_61]
                          repeat (with_reducible refine And.intro (by omega) ?_)
                          refine go_l ?_
                          obtain rfl := Option.some.inj h
                          exact hJ _ (wkN_of 1 [] (by simp [c_56]) (by simp [c_56]) (by simp) (by simp) (by simp))
                  · intro c_49 p_49 h
                    refine go_exit ?_
                    simp -implicitDefEqProofs
                    exact hE _ _ (Option.some.inj h).symm (wkN_of 1 [] (by simp [c_49]) (by simp) (by simp) (by simp) (by simp))
              · intro c_40 p_40 h
                refine go_exit ?_
                simp -implicitDefEqProofs
                exact hE _ _ (Option.some.inj h).symm (wkN_of 1 [] (by simp [c_40]) (by simp) (by simp) (by simp) (by simp))
          · intro c_35 p_35 h
            refine go_exit ?_
            simp -implicitDefEqProofs
            exact hE _ _ (Option.some.inj h).symm (wkN_of 1 [] (by simp [c_35]) (by simp) (by simp) (by simp) (by simp))
      · rintro v12__16 o B' E' h hB hE hR
        simp only [law18_PinWays_L1] at h
        simp -implicitDefEqProofs
        refine go_seq ?_
        refine go_seq ?_
        refine go_reg ?_
        try simp -implicitDefEqProofs
        repeat (with_reducible refine And.intro (by omega) ?_)
        refine go_cond ?_
        try simp -implicitDefEqProofs
        repeat (with_reducible refine And.intro (by omega) ?_)
        first | with_reducible refine selP_ite h (by first | exact Iff.rfl | omega | (simp; done) | (simp [Pin.eqi, Edge.eqi, Lattice.eqi, Arr3U8.eqi, Arr4I8.eqi, Arr2U8.eqi]; done) | fail) ?_ ?_ | with_reducible refine selP_ite2 h (by first | exact Iff.rfl | omega | (simp; done) | (simp [Pin.eqi, Edge.eqi, Lattice.eqi, Arr3U8.eqi, Arr4I8.eqi, Arr2U8.eqi]; done) | fail) ?_ ?_ | with_reducible refine selP_ite h (by first | (simp only [Pin.eqi, Edge.eqi, Lattice.eqi, Arr3U8.eqi, Arr4I8.eqi, Arr2U8.eqi]; grind) | grind | fail) ?_ ?_ | with_reducible refine selP_ite2 h (by first | (simp only [Pin.eqi, Edge.eqi, Lattice.eqi, Arr3U8.eqi, Arr4I8.eqi, Arr2U8.eqi]; grind) | grind | fail) ?_ ?_
        · intro c_17 p_17 h
          refine go_skip ?_
          refine go_seq ?_
          refine go_block ?_
          refine go_seq ?_
          refine go_reg ?_
          refine run_join h [⟨.a, .h, .d⟩, ⟨.a, .h, .e⟩, ⟨.a, .h, .f⟩, ⟨.a, .h, .g⟩, ⟨.a, .h, .h⟩, ⟨.b, .a, .a⟩, ⟨.b, .a, .b⟩, ⟨.b, .a, .c⟩, ⟨.b, .a, .d⟩, ⟨.b, .a, .e⟩, ⟨.b, .a, .f⟩, ⟨.b, .a, .g⟩, ⟨.b, .a, .h⟩, ⟨.b, .b, .a⟩, ⟨.b, .b, .b⟩, ⟨.b, .b, .c⟩, ⟨.b, .b, .d⟩, ⟨.b, .b, .e⟩, ⟨.b, .b, .f⟩, ⟨.b, .b, .g⟩, ⟨.b, .b, .h⟩, ⟨.b, .c, .a⟩, ⟨.b, .c, .b⟩, ⟨.b, .c, .c⟩, ⟨.b, .c, .d⟩, ⟨.b, .c, .e⟩, ⟨.b, .c, .f⟩, ⟨.b, .c, .g⟩, ⟨.b, .c, .h⟩, ⟨.b, .d, .a⟩, ⟨.b, .d, .b⟩, ⟨.b, .d, .c⟩] (fun v90_18 => [(⟨.b, .d, .c⟩, .v (.bool v90_18))]) (fun v90_18 => [[.v (.int .i64 w35_9.N), .sl 4 (mp cEdge w35_9.Edges) .none], [.v (.int .i64 w38_10.N), .sl 4 (mp cEdge w38_10.Edges) .none]]) (fun v90_18 => []) (by repeat (first | exact soft_c | refine soft_b ?_)) ?_ ?_
          · rintro v90_18 h
            try dsimp only at h
            try simp -implicitDefEqProofs
            refine go_cond ?_
            try simp -implicitDefEqProofs [c_17]
            repeat (with_reducible refine And.intro (by omega) ?_)
            first | with_reducible refine selP_ite h (by first | exact Iff.rfl | omega | (simp; done) | (simp [Pin.eqi, Edge.eqi, Lattice.eqi, Arr3U8.eqi, Arr4I8.eqi, Arr2U8.eqi]; done) | fail) ?_ ?_ | with_reducible refine selP_ite2 h (by first | exact Iff.rfl | omega | (simp; done) | (simp [Pin.eqi, Edge.eqi, Lattice.eqi, Arr3U8.eqi, Arr4I8.eqi, Arr2U8.eqi]; done) | fail) ?_ ?_ | with_reducible refine selP_ite h (by first | (simp only [Pin.eqi, Edge.eqi, Lattice.eqi, Arr3U8.eqi, Arr4I8.eqi, Arr2U8.eqi]; grind) | grind | fail) ?_ ?_ | with_reducible refine selP_ite2 h (by first | (simp only [Pin.eqi, Edge.eqi, Lattice.eqi, Arr3U8.eqi, Arr4I8.eqi, Arr2U8.eqi]; grind) | grind | fail) ?_ ?_
            · intro c_26 p_26 h
              refine go_seq ?_
              refine go_reg ?_
              try simp -implicitDefEqProofs [c_17, c_26]
              repeat (with_reducible refine And.intro (by omega) ?_)
              obtain rfl := hR _ (Option.some.inj h).symm
              try dsimp only at hn_15
              have h := hn_15
              obtain rfl := Option.some.inj h
              refine go_ret ?_
              simp -implicitDefEqProofs
            · intro c_26 p_26 h
              have q_26 := eq_false_of_ne_true c_26
              refine go_skip ?_
              refine go_b ?_
              refine go_reg ?_
              obtain ⟨⟨c_28, c_29⟩, h⟩ := chk_elim h
              try simp -implicitDefEqProofs [c_17, q_26, c_28, c_29]
              repeat (with_reducible refine And.intro (by omega) ?_)
              refine go_l ?_
              exact hB _ _ (Option.some.inj h).symm (wkN_of 0 [] (by simp) (by simp) (by simp) (by simp) (by simp))
          · intro v E h hJ
            obtain ⟨⟨c_21, c_22⟩, h⟩ := chk_elim h
            have k_23 := toNat_lt c_21 c_22
            try simp -implicitDefEqProofs [c_17, c_21, k_23]
            repeat (with_reducible refine And.intro (by omega) ?_)
            first | with_reducible refine selP_ite h (by first | exact Iff.rfl | omega | (simp; done) | (simp [Pin.eqi, Edge.eqi, Lattice.eqi, Arr3U8.eqi, Arr4I8.eqi, Arr2U8.eqi]; done) | fail) ?_ ?_ | with_reducible refine selP_ite2 h (by first | exact Iff.rfl | omega | (simp; done) | (simp [Pin.eqi, Edge.eqi, Lattice.eqi, Arr3U8.eqi, Arr4I8.eqi, Arr2U8.eqi]; done) | fail) ?_ ?_ | with_reducible refine selP_ite h (by first | (simp only [Pin.eqi, Edge.eqi, Lattice.eqi, Arr3U8.eqi, Arr4I8.eqi, Arr2U8.eqi]; grind) | grind | fail) ?_ ?_ | with_reducible refine selP_ite2 h (by first | (simp only [Pin.eqi, Edge.eqi, Lattice.eqi, Arr3U8.eqi, Arr4I8.eqi, Arr2U8.eqi]; grind) | grind | fail) ?_ ?_
            · intro c_24 p_24 h
              try simp -implicitDefEqProofs [c_24]
              repeat (with_reducible refine And.intro (by omega) ?_)
              refine go_l ?_
              obtain rfl := Option.some.inj h
              exact hJ _ (wkN_of 0 [] (by simp [c_17]) (by simp [c_17]) (by simp) (by simp) (by simp))
            · intro c_24 p_24 h
              try simp -implicitDefEqProofs [c_17, c_21, k_23, c_24]
              repeat (with_reducible refine And.intro (by omega) ?_)
              first | with_reducible refine selP_ite h (by first | exact Iff.rfl | omega | (simp; done) | (simp [Pin.eqi, Edge.eqi, Lattice.eqi, Arr3U8.eqi, Arr4I8.eqi, Arr2U8.eqi]; done) | fail) ?_ ?_ | with_reducible refine selP_ite2 h (by first | exact Iff.rfl | omega | (simp; done) | (simp [Pin.eqi, Edge.eqi, Lattice.eqi, Arr3U8.eqi, Arr4I8.eqi, Arr2U8.eqi]; done) | fail) ?_ ?_ | with_reducible refine selP_ite h (by first | (simp only [Pin.eqi, Edge.eqi, Lattice.eqi, Arr3U8.eqi, Arr4I8.eqi, Arr2U8.eqi]; grind) | grind | fail) ?_ ?_ | with_reducible refine selP_ite2 h (by first | (simp only [Pin.eqi, Edge.eqi, Lattice.eqi, Arr3U8.eqi, Arr4I8.eqi, Arr2U8.eqi]; grind) | grind | fail) ?_ ?_
              · intro c_25 p_25 h
                try simp -implicitDefEqProofs [c_25]
                repeat (with_reducible refine And.intro (by omega) ?_)
                refine go_l ?_
                obtain rfl := Option.some.inj h
                exact hJ _ (wkN_of 0 [] (by simp [c_17]) (by simp [c_17]) (by simp) (by simp) (by simp))
              · intro c_25 p_25 h
                try simp -implicitDefEqProofs [c_17, c_21, k_23, c_25]
                repeat (with_reducible refine And.intro (by omega) ?_)
                refine go_l ?_
                obtain rfl := Option.some.inj h
                exact hJ _ (wkN_of 0 [] (by simp [c_17]) (by simp [c_17]) (by simp) (by simp) (by simp))
        · intro c_17 p_17 h
          refine go_exit ?_
          simp -implicitDefEqProofs
          exact hE _ _ (Option.some.inj h).symm (wkN_of 0 [] (by simp [c_17]) (by simp) (by simp) (by simp) (by simp))
  · intro v E h hJ
    try simp -implicitDefEqProofs
    repeat (with_reducible refine And.intro (by omega) ?_)
    first | with_reducible refine selP_ite h (by first | exact Iff.rfl | omega | (simp; done) | (simp [Pin.eqi, Edge.eqi, Lattice.eqi, Arr3U8.eqi, Arr4I8.eqi, Arr2U8.eqi]; done) | fail) ?_ ?_ | with_reducible refine selP_ite2 h (by first | exact Iff.rfl | omega | (simp; done) | (simp [Pin.eqi, Edge.eqi, Lattice.eqi, Arr3U8.eqi, Arr4I8.eqi, Arr2U8.eqi]; done) | fail) ?_ ?_ | with_reducible refine selP_ite h (by first | (simp only [Pin.eqi, Edge.eqi, Lattice.eqi, Arr3U8.eqi, Arr4I8.eqi, Arr2U8.eqi]; grind) | grind | fail) ?_ ?_ | with_reducible refine selP_ite2 h (by first | (simp only [Pin.eqi, Edge.eqi, Lattice.eqi, Arr3U8.eqi, Arr4I8.eqi, Arr2U8.eqi]; grind) | grind | fail) ?_ ?_
    · intro c_13 p_13 h
      try simp -implicitDefEqProofs [c_13]
      repeat (with_reducible refine And.intro (by omega) ?_)
      refine go_l ?_
      obtain rfl := Option.some.inj h
      exact hJ _ (wkN_of 0 [] (by simp [c_13]) (by simp [c_13]) (by simp) (by simp) (by simp))
    · intro c_13 p_13 h
      try simp -implicitDefEqProofs [c_13]
      repeat (with_reducible refine And.intro (by omega) ?_)
      refine go_l ?_
      obtain rfl := Option.some.inj h
      exact hJ _ (wkN_of 0 [] (by simp) (by simp) (by simp) (by simp) (by simp))
def law18_PinRestricts_L1 (_x1 : List Arr3U8) (x2 : Arr2U8) (w23_5 : List Pin) : (Int × Int × List Edge) → Option ((Int × Int × List Edge) ⊕ ((Int × List Edge))) := fun (v13__9, b3_0_10, b3_1_11) =>
  if v13__9 < (w23_5.length : Int) then (
    chk (-9223372036854775808 ≤ v13__9 + (x2.x1.toNat : Int) ∧ v13__9 + (x2.x1.toNat : Int) ≤ 9223372036854775807) <|
    chk ((w23_5.length : Int) ≠ 0) <|
    chk (0 ≤ rem (v13__9 + (x2.x1.toNat : Int)) (w23_5.length : Int) ∧ rem (v13__9 + (x2.x1.toNat : Int)) (w23_5.length : Int) < (w23_5.length : Int)) <|
    (pin_Restrict (⟨b3_0_10, b3_1_11⟩ : Lattice) [(at' w23_5 (rem (v13__9 + (x2.x1.toNat : Int)) (w23_5.length : Int)))]).bind fun w50_24 =>
    chk (-9223372036854775808 ≤ v13__9 + 1 ∧ v13__9 + 1 ≤ 9223372036854775807) <|
    some (.inl (v13__9 + 1, w50_24.N, w50_24.Edges))
  ) else (
    some (.inr (b3_0_10, b3_1_11))
  )
def law18_PinRestricts (x0 : List Arr3U8) (x1 : List Arr3U8) (x2 : Arr2U8) : Option Bool :=
  (law18_sanity).bind fun w15_1 =>
  chk (-9223372036854775808 ≤ 1 + (rem (x2.x0.toNat : Int) 9) ∧ 1 + (rem (x2.x0.toNat : Int) 9) ≤ 9223372036854775807) <|
  (ref18_Made x0 (1 + (rem (x2.x0.toNat : Int) 9))).bind fun w23_5 =>
  (ref18_Lattice x1 (1 + (rem (x2.x0.toNat : Int) 9))).bind fun w26_6 =>
  (pin_Restrict w26_6 w23_5).bind fun w29_7 =>
  (loop (law18_PinRestricts_L1 x1 x2 w23_5) (0, w26_6.N, w26_6.Edges)).bind fun (b3_0_12, b3_1_13) =>
  chk (-9223372036854775808 ≤ quo (w23_5.length : Int) 2 ∧ quo (w23_5.length : Int) 2 ≤ 9223372036854775807) <|
  chk (0 ≤ quo (w23_5.length : Int) 2 ∧ quo (w23_5.length : Int) 2 ≤ (w23_5.length : Int)) <|
  (pin_Restrict w26_6 (sub w23_5 0 (quo (w23_5.length : Int) 2))).bind fun w57_34 =>
  (
    (
      (pin_Restrict w29_7 w23_5).bind fun w60_37 =>
      (ref18_SameEdges w60_37 w29_7).bind fun w62_38 =>
      if w62_38 = true then (
        (ref18_SameEdges (⟨b3_0_12, b3_1_13⟩ : Lattice) w29_7).bind fun w66_40 =>
        if w66_40 = true then (
          if (w29_7.Edges.length : Int) ≤ (w57_34.Edges.length : Int) then (
            (pin_Restrict w26_6 []).bind fun w79_43 =>
            (ref18_SameEdges w79_43 w26_6).bind fun w81_44 =>
            if w81_44 = true then (
              some w15_1
            ) else (
              some false
            )
          ) else (
            some false
          )
        ) else (
          some false
        )
      ) else (
        some false
      )
    : Option (Bool))
  ).bind fun v6_35 =>
  some v6_35
theorem link_law18_PinRestricts {x0 : List Arr3U8} {x1 : List Arr3U8} {x2 : Arr2U8} {r : Bool} (h : law18_PinRestricts x0 x1 x2 = some r) : PCalls Try.prog 6 [.sl 3 (mp cArr3U8 x0) .lent, .sl 3 (mp cArr3U8 x1) .lent, .agg (cArr2U8 x2)] (.v (.bool r)) := by
  unfold law18_PinRestricts at h
  refine pcalls is6 na6 ?_
  try simp -implicitDefEqProofs
  refine go_seq ?_
  refine go_reg ?_
  try simp -implicitDefEqProofs
  repeat (with_reducible refine And.intro (by omega) ?_)
  refine go_seq ?_
  refine go_reg ?_
  obtain ⟨w15_1, hc, h⟩ := bind_elim h
  try simp -implicitDefEqProofs
  repeat (with_reducible refine And.intro (by omega) ?_)
  refine runC_t (link_law18_sanity hc) (by simp) ?_
  try simp -implicitDefEqProofs
  repeat (with_reducible refine And.intro (by omega) ?_)
  refine go_seq ?_
  refine go_reg ?_
  obtain ⟨⟨c_3, c_4⟩, h⟩ := chk_elim h
  try simp -implicitDefEqProofs [c_3, c_4]
  repeat (with_reducible refine And.intro (by omega) ?_)
  refine go_seq ?_
  refine go_reg ?_
  obtain ⟨w23_5, hc, h⟩ := bind_elim h
  try simp -implicitDefEqProofs
  repeat (with_reducible refine And.intro (by omega) ?_)
  refine runC_t (link_ref18_Made hc) (by simp) ?_
  obtain ⟨w26_6, hc, h⟩ := bind_elim h
  try simp -implicitDefEqProofs
  repeat (with_reducible refine And.intro (by omega) ?_)
  refine runC_t (link_ref18_Lattice hc) (by simp) ?_
  try simp -implicitDefEqProofs
  repeat (with_reducible refine And.intro (by omega) ?_)
  refine go_seq ?_
  refine go_reg ?_
  obtain ⟨w29_7, hc, h⟩ := bind_elim h
  try simp -implicitDefEqProofs
  repeat (with_reducible refine And.intro (by omega) ?_)
  refine runC_t (link_pin_Restrict hc) (by simp) ?_
  try simp -implicitDefEqProofs
  repeat (with_reducible refine And.intro (by omega) ?_)
  refine go_seq ?_
  refine go_reg ?_
  try simp -implicitDefEqProofs
  repeat (with_reducible refine And.intro (by omega) ?_)
  refine go_seq ?_
  refine go_seq ?_
  refine go_reg ?_
  try simp -implicitDefEqProofs
  repeat (with_reducible refine And.intro (by omega) ?_)
  refine go_block ?_
  obtain ⟨rr_46, h, hn_8⟩ := bind_elim h
  refine go_loop (ε := Int × List Edge) h 0 (fun e => e) (fun (v13__9, b3_0_10, b3_1_11) => [(⟨.a, .b, .f⟩, .v (.int .i64 v13__9))]) (fun (v13__9, b3_0_10, b3_1_11) => [[.v (.int .u8 (x2.x0.toNat : Int)), .v (.int .u8 (x2.x1.toNat : Int))], [.v (.int .i64 w26_6.N), .sl 4 (mp cEdge w26_6.Edges) .none], [.v (.int .i64 w29_7.N), .sl 4 (mp cEdge w29_7.Edges) .none], [.v (.int .i64 b3_0_10), .sl 4 (mp cEdge b3_1_11) .none]]) (fun (v13__9, b3_0_10, b3_1_11) => []) (fun (b3_0_12, b3_1_13) => []) (fun (b3_0_12, b3_1_13) => [[.v (.int .u8 (x2.x0.toNat : Int)), .v (.int .u8 (x2.x1.toNat : Int))], [.v (.int .i64 w26_6.N), .sl 4 (mp cEdge w26_6.Edges) .none], [.v (.int .i64 w29_7.N), .sl 4 (mp cEdge w29_7.Edges) .none], [.v (.int .i64 b3_0_12), .sl 4 (mp cEdge b3_1_13) .none]]) (fun (b3_0_12, b3_1_13) => []) (wkN_of 0 [] (by simp) (by simp) (by simp) (by simp) (by simp)) ?_ ?_
  · rintro ⟨b3_0_12, b3_1_13⟩ hq
    try simp -implicitDefEqProofs
    have h := hn_8
    rw [hq] at h
    try dsimp only at h
    refine go_seq ?_
    refine go_reg ?_
    obtain ⟨⟨c_29, c_30⟩, h⟩ := chk_elim h
    obtain ⟨⟨c_32, c_33⟩, h⟩ := chk_elim h
    try simp -implicitDefEqProofs [c_29, c_30]
    repeat (with_reducible refine And.intro (by omega) ?_)
    refine runR_slc01 (k := .i64) cPin w23_5 (quo (w23_5.length : Int) 2) .none (by first | rfl | simp) (.inl rfl) (by first | rfl | simp) c_32 c_33 (by simp) ?_
    obtain ⟨w57_34, hc, h⟩ := bind_elim h
    try simp -implicitDefEqProofs
    repeat (with_reducible refine And.intro (by omega) ?_)
    refine runC_t (link_pin_Restrict hc) (by simp) ?_
    try simp -implicitDefEqProofs
    repeat (with_reducible refine And.intro (by omega) ?_)
    refine go_seq ?_
    refine go_reg ?_
    refine run_join h [⟨.a, .a, .g⟩, ⟨.a, .h, .c⟩, ⟨.a, .h, .d⟩, ⟨.a, .h, .e⟩, ⟨.a, .h, .f⟩, ⟨.a, .h, .g⟩, ⟨.a, .h, .h⟩, ⟨.b, .a, .a⟩, ⟨.b, .a, .b⟩, ⟨.b, .a, .c⟩, ⟨.b, .a, .d⟩, ⟨.b, .a, .e⟩, ⟨.b, .a, .f⟩, ⟨.b, .a, .g⟩, ⟨.b, .a, .h⟩, ⟨.b, .b, .a⟩, ⟨.b, .b, .b⟩, ⟨.b, .b, .c⟩, ⟨.b, .b, .d⟩, ⟨.b, .b, .e⟩, ⟨.b, .b, .f⟩, ⟨.b, .b, .g⟩, ⟨.b, .b, .h⟩, ⟨.b, .c, .a⟩, ⟨.b, .c, .b⟩, ⟨.b, .c, .c⟩, ⟨.b, .c, .d⟩, ⟨.b, .c, .e⟩, ⟨.b, .c, .f⟩] (fun v6_35 => [(⟨.a, .a, .g⟩, .v (.bool v6_35))]) (fun v6_35 => [[.v (.int .u8 (x2.x0.toNat : Int)), .v (.int .u8 (x2.x1.toNat : Int))], [.v (.int .i64 w26_6.N), .sl 4 (mp cEdge w26_6.Edges) .none], [.v (.int .i64 w29_7.N), .sl 4 (mp cEdge w29_7.Edges) .none], [.v (.int .i64 b3_0_12), .sl 4 (mp cEdge b3_1_13) .none], [.v (.int .i64 w57_34.N), .sl 4 (mp cEdge w57_34.Edges) .none]]) (fun v6_35 => []) (by repeat (first | exact soft_c | refine soft_b ?_)) ?_ ?_
    · rintro v6_35 h
      try dsimp only at h
      try simp -implicitDefEqProofs
      obtain rfl := Option.some.inj h
      refine go_ret ?_
      simp -implicitDefEqProofs
    · intro v E h hJ
      obtain ⟨w60_37, hc, h⟩ := bind_elim h
      try simp -implicitDefEqProofs
      repeat (with_reducible refine And.intro (by omega) ?_)
      refine runC_t (link_pin_Restrict hc) (by simp) ?_
      obtain ⟨w62_38, hc, h⟩ := bind_elim h
      try simp -implicitDefEqProofs
      repeat (with_reducible refine And.intro (by omega) ?_)
      refine runC_t (link_ref18_SameEdges hc) (by simp) ?_
      try simp -implicitDefEqProofs
      repeat (with_reducible refine And.intro (by omega) ?_)
      first | with_reducible refine selP_ite h (by first | exact Iff.rfl | omega | (simp; done) | (simp [Pin.eqi, Edge.eqi, Lattice.eqi, Arr3U8.eqi, Arr4I8.eqi, Arr2U8.eqi]; done) | fail) ?_ ?_ | with_reducible refine selP_ite2 h (by first | exact Iff.rfl | omega | (simp; done) | (simp [Pin.eqi, Edge.eqi, Lattice.eqi, Arr3U8.eqi, Arr4I8.eqi, Arr2U8.eqi]; done) | fail) ?_ ?_ | with_reducible refine selP_ite h (by first | (simp only [Pin.eqi, Edge.eqi, Lattice.eqi, Arr3U8.eqi, Arr4I8.eqi, Arr2U8.eqi]; grind) | grind | fail) ?_ ?_ | with_reducible refine selP_ite2 h (by first | (simp only [Pin.eqi, Edge.eqi, Lattice.eqi, Arr3U8.eqi, Arr4I8.eqi, Arr2U8.eqi]; grind) | grind | fail) ?_ ?_
      · intro c_39 p_39 h
        obtain ⟨w66_40, hc, h⟩ := bind_elim h
        try simp -implicitDefEqProofs [c_39]
        repeat (with_reducible refine And.intro (by omega) ?_)
        refine runC_t (link_ref18_SameEdges hc) (by simp) ?_
        try simp -implicitDefEqProofs
        repeat (with_reducible refine And.intro (by omega) ?_)
        first | with_reducible refine selP_ite h (by first | exact Iff.rfl | omega | (simp; done) | (simp [Pin.eqi, Edge.eqi, Lattice.eqi, Arr3U8.eqi, Arr4I8.eqi, Arr2U8.eqi]; done) | fail) ?_ ?_ | with_reducible refine selP_ite2 h (by first | exact Iff.rfl | omega | (simp; done) | (simp [Pin.eqi, Edge.eqi, Lattice.eqi, Arr3U8.eqi, Arr4I8.eqi, Arr2U8.eqi]; done) | fail) ?_ ?_ | with_reducible refine selP_ite h (by first | (simp only [Pin.eqi, Edge.eqi, Lattice.eqi, Arr3U8.eqi, Arr4I8.eqi, Arr2U8.eqi]; grind) | grind | fail) ?_ ?_ | with_reducible refine selP_ite2 h (by first | (simp only [Pin.eqi, Edge.eqi, Lattice.eqi, Arr3U8.eqi, Arr4I8.eqi, Arr2U8.eqi]; grind) | grind | fail) ?_ ?_
        · intro c_41 p_41 h
          try simp -implicitDefEqProofs [c_41]
          repeat (with_reducible refine And.intro (by omega) ?_)
          first | with_reducible refine selP_ite h (by first | exact Iff.rfl | omega | (simp; done) | (simp [Pin.eqi, Edge.eqi, Lattice.eqi, Arr3U8.eqi, Arr4I8.eqi, Arr2U8.eqi]; done) | fail) ?_ ?_ | with_reducible refine selP_ite2 h (by first | exact Iff.rfl | omega | (simp; done) | (simp [Pin.eqi, Edge.eqi, Lattice.eqi, Arr3U8.eqi, Arr4I8.eqi, Arr2U8.eqi]; done) | fail) ?_ ?_ | with_reducible refine selP_ite h (by first | (simp only [Pin.eqi, Edge.eqi, Lattice.eqi, Arr3U8.eqi, Arr4I8.eqi, Arr2U8.eqi]; grind) | grind | fail) ?_ ?_ | with_reducible refine selP_ite2 h (by first | (simp only [Pin.eqi, Edge.eqi, Lattice.eqi, Arr3U8.eqi, Arr4I8.eqi, Arr2U8.eqi]; grind) | grind | fail) ?_ ?_
          · intro c_42 p_42 h
            obtain ⟨w79_43, hc, h⟩ := bind_elim h
            try simp -implicitDefEqProofs [p_42]
            repeat (with_reducible refine And.intro (by omega) ?_)
            refine runC_t (link_pin_Restrict hc) (by simp) ?_
            obtain ⟨w81_44, hc, h⟩ := bind_elim h
            try simp -implicitDefEqProofs
            repeat (with_reducible refine And.intro (by omega) ?_)
            refine runC_t (link_ref18_SameEdges hc) (by simp) ?_
            try simp -implicitDefEqProofs
            repeat (with_reducible refine And.intro (by omega) ?_)
            first | with_reducible refine selP_ite h (by first | exact Iff.rfl | omega | (simp; done) | (simp [Pin.eqi, Edge.eqi, Lattice.eqi, Arr3U8.eqi, Arr4I8.eqi, Arr2U8.eqi]; done) | fail) ?_ ?_ | with_reducible refine selP_ite2 h (by first | exact Iff.rfl | omega | (simp; done) | (simp [Pin.eqi, Edge.eqi, Lattice.eqi, Arr3U8.eqi, Arr4I8.eqi, Arr2U8.eqi]; done) | fail) ?_ ?_ | with_reducible refine selP_ite h (by first | (simp only [Pin.eqi, Edge.eqi, Lattice.eqi, Arr3U8.eqi, Arr4I8.eqi, Arr2U8.eqi]; grind) | grind | fail) ?_ ?_ | with_reducible refine selP_ite2 h (by first | (simp only [Pin.eqi, Edge.eqi, Lattice.eqi, Arr3U8.eqi, Arr4I8.eqi, Arr2U8.eqi]; grind) | grind | fail) ?_ ?_
            · intro c_45 p_45 h
              try simp -implicitDefEqProofs [c_45]
              repeat (with_reducible refine And.intro (by omega) ?_)
              refine go_l ?_
              obtain rfl := Option.some.inj h
              exact hJ _ (wkN_of 0 [] (by simp) (by simp) (by simp) (by simp) (by simp))
            · intro c_45 p_45 h
              have q_45 := eq_false_of_ne_true c_45
              try simp -implicitDefEqProofs [q_45]
              repeat (with_reducible refine And.intro (by omega) ?_)
              refine go_l ?_
              obtain rfl := Option.some.inj h
              exact hJ _ (wkN_of 0 [] (by simp) (by simp) (by simp) (by simp) (by simp))
          · intro c_42 p_42 h
            try simp -implicitDefEqProofs [p_42]
            repeat (with_reducible refine And.intro (by omega) ?_)
            refine go_l ?_
            obtain rfl := Option.some.inj h
            exact hJ _ (wkN_of 0 [] (by simp) (by simp) (by simp) (by simp) (by simp))
        · intro c_41 p_41 h
          have q_41 := eq_false_of_ne_true c_41
          try simp -implicitDefEqProofs [q_41]
          repeat (with_reducible refine And.intro (by omega) ?_)
          refine go_l ?_
          obtain rfl := Option.some.inj h
          exact hJ _ (wkN_of 0 [] (by simp) (by simp) (by simp) (by simp) (by simp))
      · intro c_39 p_39 h
        have q_39 := eq_false_of_ne_true c_39
        try simp -implicitDefEqProofs [q_39]
        repeat (with_reducible refine And.intro (by omega) ?_)
        refine go_l ?_
        obtain rfl := Option.some.inj h
        exact hJ _ (wkN_of 0 [] (by simp) (by simp) (by simp) (by simp) (by simp))
  · rintro ⟨v13__9, b3_0_10, b3_1_11⟩ o B' E' h hB hE hR
    simp only [law18_PinRestricts_L1] at h
    simp -implicitDefEqProofs
    refine go_seq ?_
    refine go_seq ?_
    refine go_reg ?_
    try simp -implicitDefEqProofs
    repeat (with_reducible refine And.intro (by omega) ?_)
    refine go_cond ?_
    try simp -implicitDefEqProofs
    repeat (with_reducible refine And.intro (by omega) ?_)
    first | with_reducible refine selP_ite h (by first | exact Iff.rfl | omega | (simp; done) | (simp [Pin.eqi, Edge.eqi, Lattice.eqi, Arr3U8.eqi, Arr4I8.eqi, Arr2U8.eqi]; done) | fail) ?_ ?_ | with_reducible refine selP_ite2 h (by first | exact Iff.rfl | omega | (simp; done) | (simp [Pin.eqi, Edge.eqi, Lattice.eqi, Arr3U8.eqi, Arr4I8.eqi, Arr2U8.eqi]; done) | fail) ?_ ?_ | with_reducible refine selP_ite h (by first | (simp only [Pin.eqi, Edge.eqi, Lattice.eqi, Arr3U8.eqi, Arr4I8.eqi, Arr2U8.eqi]; grind) | grind | fail) ?_ ?_ | with_reducible refine selP_ite2 h (by first | (simp only [Pin.eqi, Edge.eqi, Lattice.eqi, Arr3U8.eqi, Arr4I8.eqi, Arr2U8.eqi]; grind) | grind | fail) ?_ ?_
    · intro c_14 p_14 h
      refine go_skip ?_
      refine go_seq ?_
      refine go_block ?_
      refine go_reg ?_
      obtain ⟨⟨c_16, c_17⟩, h⟩ := chk_elim h
      obtain ⟨c_18, h⟩ := chk_elim h
      have k_19 := c_18
      try simp at k_19
      obtain ⟨⟨c_21, c_22⟩, h⟩ := chk_elim h
      have k_23 := toNat_lt c_21 c_22
      obtain ⟨w50_24, hc, h⟩ := bind_elim h
      try simp -implicitDefEqProofs [c_14, c_16, c_17, k_19, c_21, c_22, k_23]
      repeat (with_reducible refine And.intro (by omega) ?_)
      refine runC_t (link_pin_Restrict hc) (by simp) ?_
      try simp -implicitDefEqProofs
      repeat (with_reducible refine And.intro (by omega) ?_)
      refine go_b ?_
      refine go_reg ?_
      obtain ⟨⟨c_26, c_27⟩, h⟩ := chk_elim h
      try simp -implicitDefEqProofs [c_26, c_27]
      repeat (with_reducible refine And.intro (by omega) ?_)
      refine go_l ?_
      exact hB _ _ (Option.some.inj h).symm (wkN_of 0 [] (by simp [k_19]) (by simp) (by simp) (by simp) (by simp))
    · intro c_14 p_14 h
      refine go_exit ?_
      simp -implicitDefEqProofs
      exact hE _ _ (Option.some.inj h).symm (wkN_of 0 [] (by simp [c_14]) (by simp) (by simp) (by simp) (by simp))
def law18_PinSlots_L1 (_x0 : List Arr3U8) (x1 : Arr2U8) (w22_5 : List Pin) (w31_11 : List Pin) (w37_13 : List Pin) : (List Pin × Int) → Option ((List Pin × Int) ⊕ (Bool ⊕ (List Pin))) := fun (v12__27, v13__28) =>
  if v13__28 < (w22_5.length : Int) then (
    (
      (
        chk (0 ≤ v13__28 ∧ v13__28 < (w22_5.length : Int)) <|
        if rem (x1.x1.toNat : Int) ((1 + (rem (x1.x0.toNat : Int) 9)) + 1) ≤ (at' w22_5 v13__28).From then (
          some true
        ) else (
          some (decide ((at' w22_5 v13__28).To ≤ rem (x1.x1.toNat : Int) ((1 + (rem (x1.x0.toNat : Int) 9)) + 1)))
        )
      : Option (Bool))
    ).bind fun v83_31 =>
    (
      (
        if v83_31 = true then (
          chk (0 ≤ v13__28 ∧ v13__28 < (w22_5.length : Int)) <|
          chk ((v12__27.length + ([at' w22_5 v13__28] : List Pin).length) * 24 ≤ 140737488355328) <|
          some (v12__27 ++ [at' w22_5 v13__28])
        ) else (
          some v12__27
        )
      : Option (List Pin))
    ).bind fun v12_38 =>
    (
      (
        chk (0 ≤ v13__28 ∧ v13__28 < (w22_5.length : Int)) <|
        if (at' w22_5 v13__28).To ≤ rem (x1.x1.toNat : Int) ((1 + (rem (x1.x0.toNat : Int) 9)) + 1) then (
          (ref18_Has w31_11 (at' w22_5 v13__28)).bind fun w104_53 =>
          if w104_53 = true then (
            (ref18_Has w37_13 (at' w22_5 v13__28)).bind fun w112_55 =>
            some (!w112_55)
          ) else (
            some true
          )
        ) else (
          some false
        )
      : Option (Bool))
    ).bind fun v115_46 =>
    if v115_46 = true then (
      some (.inr (.inl false))
    ) else (
      chk (-9223372036854775808 ≤ v13__28 + 1 ∧ v13__28 + 1 ≤ 9223372036854775807) <|
      some (.inl (v12_38, v13__28 + 1))
    )
  ) else (
    some (.inr (.inr v12__27))
  )
def law18_PinSlots (x0 : List Arr3U8) (x1 : Arr2U8) : Option Bool :=
  (law18_sanity).bind fun w14_1 =>
  chk (-9223372036854775808 ≤ 1 + (rem (x1.x0.toNat : Int) 9) ∧ 1 + (rem (x1.x0.toNat : Int) 9) ≤ 9223372036854775807) <|
  (ref18_Made x0 (1 + (rem (x1.x0.toNat : Int) 9))).bind fun w22_5 =>
  chk (-9223372036854775808 ≤ (1 + (rem (x1.x0.toNat : Int) 9)) + 1 ∧ (1 + (rem (x1.x0.toNat : Int) 9)) + 1 ≤ 9223372036854775807) <|
  chk ((1 + (rem (x1.x0.toNat : Int) 9)) + 1 ≠ 0) <|
  (pin_Insert w22_5 (rem (x1.x1.toNat : Int) ((1 + (rem (x1.x0.toNat : Int) 9)) + 1))).bind fun w31_11 =>
  (pin_Delete w31_11 (rem (x1.x1.toNat : Int) ((1 + (rem (x1.x0.toNat : Int) 9)) + 1))).bind fun w34_12 =>
  (pin_Delete w22_5 (rem (x1.x1.toNat : Int) ((1 + (rem (x1.x0.toNat : Int) 9)) + 1))).bind fun w37_13 =>
  (
    (
      (ref18_Valid w31_11 ((1 + (rem (x1.x0.toNat : Int) 9)) + 1)).bind fun w41_16 =>
      if w41_16 = true then (
        (ref18_Valid w34_12 (1 + (rem (x1.x0.toNat : Int) 9))).bind fun w46_18 =>
        if w46_18 = true then (
          if rem (x1.x1.toNat : Int) ((1 + (rem (x1.x0.toNat : Int) 9)) + 1) < 1 + (rem (x1.x0.toNat : Int) 9) then (
            chk (-9223372036854775808 ≤ (1 + (rem (x1.x0.toNat : Int) 9)) - 1 ∧ (1 + (rem (x1.x0.toNat : Int) 9)) - 1 ≤ 9223372036854775807) <|
            (ref18_Valid w37_13 ((1 + (rem (x1.x0.toNat : Int) 9)) - 1)).bind fun w57_24 =>
            some (!w57_24)
          ) else (
            some false
          )
        ) else (
          some true
        )
      ) else (
        some true
      )
    : Option (Bool))
  ).bind fun v60_14 =>
  if v60_14 = true then (
    some false
  ) else (
    (loop (law18_PinSlots_L1 x0 x1 w22_5 w31_11 w37_13) ([], 0)).bind fun
    | .inl e => some e
    | .inr v12_29 =>
    (
      (
        (ref18_Same w34_12 v12_29).bind fun w118_62 =>
        if w118_62 = true then (
          some w14_1
        ) else (
          some false
        )
      : Option (Bool))
    ).bind fun v4_60 =>
    some v4_60
  )
theorem link_law18_PinSlots {x0 : List Arr3U8} {x1 : Arr2U8} {r : Bool} (h : law18_PinSlots x0 x1 = some r) : PCalls Try.prog 7 [.sl 3 (mp cArr3U8 x0) .lent, .agg (cArr2U8 x1)] (.v (.bool r)) := by
  unfold law18_PinSlots at h
  refine pcalls is7 na7 ?_
  try simp -implicitDefEqProofs
  refine go_seq ?_
  refine go_reg ?_
  try simp -implicitDefEqProofs
  repeat (with_reducible refine And.intro (by omega) ?_)
  refine go_seq ?_
  refine go_reg ?_
  obtain ⟨w14_1, hc, h⟩ := bind_elim h
  try simp -implicitDefEqProofs
  repeat (with_reducible refine And.intro (by omega) ?_)
  refine runC_t (link_law18_sanity hc) (by simp) ?_
  try simp -implicitDefEqProofs
  repeat (with_reducible refine And.intro (by omega) ?_)
  refine go_seq ?_
  refine go_reg ?_
  obtain ⟨⟨c_3, c_4⟩, h⟩ := chk_elim h
  try simp -implicitDefEqProofs [c_3, c_4]
  repeat (with_reducible refine And.intro (by omega) ?_)
  refine go_seq ?_
  refine go_reg ?_
  obtain ⟨w22_5, hc, h⟩ := bind_elim h
  try simp -implicitDefEqProofs
  repeat (with_reducible refine And.intro (by omega) ?_)
  refine runC_t (link_ref18_Made hc) (by simp) ?_
  try simp -implicitDefEqProofs
  repeat (with_reducible refine And.intro (by omega) ?_)
  refine go_seq ?_
  refine go_reg ?_
  obtain ⟨⟨c_7, c_8⟩, h⟩ := chk_elim h
  obtain ⟨c_9, h⟩ := chk_elim h
  have k_10 := c_9
  try simp at k_10
  try simp -implicitDefEqProofs [c_7, c_8, c_9]
  repeat (with_reducible refine And.intro (by omega) ?_)
  refine go_seq ?_
  refine go_reg ?_
  obtain ⟨w31_11, hc, h⟩ := bind_elim h
  try simp -implicitDefEqProofs
  repeat (with_reducible refine And.intro (by omega) ?_)
  refine runC_t (link_pin_Insert hc) (by simp) ?_
  try simp -implicitDefEqProofs
  repeat (with_reducible refine And.intro (by omega) ?_)
  refine go_seq ?_
  refine go_reg ?_
  obtain ⟨w34_12, hc, h⟩ := bind_elim h
  try simp -implicitDefEqProofs
  repeat (with_reducible refine And.intro (by omega) ?_)
  refine runC_t (link_pin_Delete hc) (by simp) ?_
  obtain ⟨w37_13, hc, h⟩ := bind_elim h
  try simp -implicitDefEqProofs
  repeat (with_reducible refine And.intro (by omega) ?_)
  refine runC_t (link_pin_Delete hc) (by simp) ?_
  try simp -implicitDefEqProofs
  repeat (with_reducible refine And.intro (by omega) ?_)
  refine go_seq ?_
  refine go_seq ?_
  refine go_reg ?_
  refine run_join h [⟨.a, .e, .g⟩, ⟨.a, .e, .h⟩, ⟨.a, .f, .a⟩, ⟨.a, .f, .b⟩, ⟨.a, .f, .c⟩, ⟨.a, .f, .d⟩, ⟨.a, .f, .e⟩, ⟨.a, .f, .f⟩, ⟨.a, .f, .g⟩, ⟨.a, .f, .h⟩, ⟨.a, .g, .a⟩, ⟨.a, .g, .b⟩, ⟨.a, .g, .c⟩, ⟨.a, .g, .d⟩, ⟨.a, .g, .e⟩, ⟨.a, .g, .f⟩, ⟨.a, .g, .g⟩, ⟨.a, .g, .h⟩, ⟨.a, .h, .a⟩, ⟨.a, .h, .b⟩, ⟨.a, .h, .c⟩, ⟨.a, .h, .d⟩, ⟨.a, .h, .e⟩] (fun v60_14 => [(⟨.a, .h, .e⟩, .v (.bool v60_14))]) (fun v60_14 => [[.v (.int .u8 (x1.x0.toNat : Int)), .v (.int .u8 (x1.x1.toNat : Int))]]) (fun v60_14 => []) (by repeat (first | exact soft_c | refine soft_b ?_)) ?_ ?_
  · rintro v60_14 h
    try dsimp only at h
    try simp -implicitDefEqProofs
    refine go_cond ?_
    try simp -implicitDefEqProofs
    repeat (with_reducible refine And.intro (by omega) ?_)
    first | with_reducible refine selP_ite h (by first | exact Iff.rfl | omega | (simp; done) | (simp [Pin.eqi, Edge.eqi, Lattice.eqi, Arr3U8.eqi, Arr4I8.eqi, Arr2U8.eqi]; done) | fail) ?_ ?_ | with_reducible refine selP_ite2 h (by first | exact Iff.rfl | omega | (simp; done) | (simp [Pin.eqi, Edge.eqi, Lattice.eqi, Arr3U8.eqi, Arr4I8.eqi, Arr2U8.eqi]; done) | fail) ?_ ?_ | with_reducible refine selP_ite h (by first | (simp only [Pin.eqi, Edge.eqi, Lattice.eqi, Arr3U8.eqi, Arr4I8.eqi, Arr2U8.eqi]; grind) | grind | fail) ?_ ?_ | with_reducible refine selP_ite2 h (by first | (simp only [Pin.eqi, Edge.eqi, Lattice.eqi, Arr3U8.eqi, Arr4I8.eqi, Arr2U8.eqi]; grind) | grind | fail) ?_ ?_
    · intro c_25 p_25 h
      refine go_seq ?_
      refine go_reg ?_
      try simp -implicitDefEqProofs [c_25]
      repeat (with_reducible refine And.intro (by omega) ?_)
      obtain rfl := Option.some.inj h
      refine go_ret ?_
      simp -implicitDefEqProofs
    · intro c_25 p_25 h
      have q_25 := eq_false_of_ne_true c_25
      refine go_skip ?_
      refine go_seq ?_
      refine go_reg ?_
      try simp -implicitDefEqProofs [q_25]
      repeat (with_reducible refine And.intro (by omega) ?_)
      refine go_seq ?_
      refine go_seq ?_
      refine go_reg ?_
      try simp -implicitDefEqProofs
      repeat (with_reducible refine And.intro (by omega) ?_)
      refine go_block ?_
      obtain ⟨rr_64, h, hn_26⟩ := bind_elim h
      refine go_loop (ε := List Pin) h 0 (fun e => .inr e) (fun (v12__27, v13__28) => [(⟨.a, .b, .e⟩, .sl 3 (mp cPin v12__27) (.id 0)), (⟨.a, .b, .f⟩, .v (.int .i64 v13__28))]) (fun (v12__27, v13__28) => [[.v (.int .u8 (x1.x0.toNat : Int)), .v (.int .u8 (x1.x1.toNat : Int))]]) (fun (v12__27, v13__28) => [(v12__27).length]) (fun v12_29 => [(⟨.a, .b, .e⟩, .sl 3 (mp cPin v12_29) (.id 0))]) (fun v12_29 => [[.v (.int .u8 (x1.x0.toNat : Int)), .v (.int .u8 (x1.x1.toNat : Int))]]) (fun v12_29 => [(v12_29).length]) (wkN_of 0 [0] (by simp) (by simp) (by simp) (by simp) (by simp)) ?_ ?_
      · rintro v12_29 hq
        try simp -implicitDefEqProofs
        have h := hn_26
        rw [hq] at h
        try dsimp only at h
        refine go_seq ?_
        refine go_reg ?_
        refine run_join h [⟨.a, .a, .e⟩, ⟨.b, .g, .e⟩, ⟨.b, .g, .f⟩, ⟨.b, .g, .g⟩, ⟨.b, .g, .h⟩, ⟨.b, .h, .a⟩, ⟨.b, .h, .b⟩] (fun v4_60 => [(⟨.a, .a, .e⟩, .v (.bool v4_60))]) (fun v4_60 => [[.v (.int .u8 (x1.x0.toNat : Int)), .v (.int .u8 (x1.x1.toNat : Int))]]) (fun v4_60 => [(v12_29).length]) (by repeat (first | exact soft_c | refine soft_b ?_)) ?_ ?_
        · rintro v4_60 h
          try dsimp only at h
          try simp -implicitDefEqProofs
          obtain rfl := Option.some.inj h
          refine go_ret ?_
          simp -implicitDefEqProofs
        · intro v E h hJ
          obtain ⟨w118_62, hc, h⟩ := bind_elim h
          try simp -implicitDefEqProofs
          repeat (with_reducible refine And.intro (by omega) ?_)
          refine runC_t (link_ref18_Same hc) (by simp) ?_
          try simp -implicitDefEqProofs
          repeat (with_reducible refine And.intro (by omega) ?_)
          first | with_reducible refine selP_ite h (by first | exact Iff.rfl | omega | (simp; done) | (simp [Pin.eqi, Edge.eqi, Lattice.eqi, Arr3U8.eqi, Arr4I8.eqi, Arr2U8.eqi]; done) | fail) ?_ ?_ | with_reducible refine selP_ite2 h (by first | exact Iff.rfl | omega | (simp; done) | (simp [Pin.eqi, Edge.eqi, Lattice.eqi, Arr3U8.eqi, Arr4I8.eqi, Arr2U8.eqi]; done) | fail) ?_ ?_ | with_reducible refine selP_ite h (by first | (simp only [Pin.eqi, Edge.eqi, Lattice.eqi, Arr3U8.eqi, Arr4I8.eqi, Arr2U8.eqi]; grind) | grind | fail) ?_ ?_ | with_reducible refine selP_ite2 h (by first | (simp only [Pin.eqi, Edge.eqi, Lattice.eqi, Arr3U8.eqi, Arr4I8.eqi, Arr2U8.eqi]; grind) | grind | fail) ?_ ?_
          · intro c_63 p_63 h
            try simp -implicitDefEqProofs [c_63]
            repeat (with_reducible refine And.intro (by omega) ?_)
            refine go_l ?_
            obtain rfl := Option.some.inj h
            exact hJ _ (wkN_of 1 [] (by simp) (by simp) (by simp) (by simp) (by simp))
          · intro c_63 p_63 h
            have q_63 := eq_false_of_ne_true c_63
            try simp -implicitDefEqProofs [q_63]
            repeat (with_reducible refine And.intro (by omega) ?_)
            refine go_l ?_
            obtain rfl := Option.some.inj h
            exact hJ _ (wkN_of 1 [] (by simp) (by simp) (by simp) (by simp) (by simp))
      · rintro ⟨v12__27, v13__28⟩ o B' E' h hB hE hR
        simp only [law18_PinSlots_L1] at h
        simp -implicitDefEqProofs
        refine go_seq ?_
        refine go_seq ?_
        refine go_reg ?_
        try simp -implicitDefEqProofs
        repeat (with_reducible refine And.intro (by omega) ?_)
        refine go_cond ?_
        try simp -implicitDefEqProofs
        repeat (with_reducible refine And.intro (by omega) ?_)
        first | with_reducible refine selP_ite h (by first | exact Iff.rfl | omega | (simp; done) | (simp [Pin.eqi, Edge.eqi, Lattice.eqi, Arr3U8.eqi, Arr4I8.eqi, Arr2U8.eqi]; done) | fail) ?_ ?_ | with_reducible refine selP_ite2 h (by first | exact Iff.rfl | omega | (simp; done) | (simp [Pin.eqi, Edge.eqi, Lattice.eqi, Arr3U8.eqi, Arr4I8.eqi, Arr2U8.eqi]; done) | fail) ?_ ?_ | with_reducible refine selP_ite h (by first | (simp only [Pin.eqi, Edge.eqi, Lattice.eqi, Arr3U8.eqi, Arr4I8.eqi, Arr2U8.eqi]; grind) | grind | fail) ?_ ?_ | with_reducible refine selP_ite2 h (by first | (simp only [Pin.eqi, Edge.eqi, Lattice.eqi, Arr3U8.eqi, Arr4I8.eqi, Arr2U8.eqi]; grind) | grind | fail) ?_ ?_
        · intro c_30 p_30 h
          refine go_skip ?_
          refine go_seq ?_
          refine go_block ?_
          refine go_seq ?_
          refine go_seq ?_
          refine go_reg ?_
          refine run_join h [⟨.b, .a, .e⟩, ⟨.b, .a, .f⟩, ⟨.b, .a, .g⟩, ⟨.b, .a, .h⟩, ⟨.b, .b, .a⟩, ⟨.b, .b, .b⟩, ⟨.b, .b, .c⟩, ⟨.b, .b, .d⟩, ⟨.b, .b, .e⟩, ⟨.b, .b, .f⟩, ⟨.b, .b, .g⟩, ⟨.b, .b, .h⟩, ⟨.b, .c, .a⟩, ⟨.b, .c, .b⟩, ⟨.b, .c, .c⟩, ⟨.b, .c, .d⟩] (fun v83_31 => [(⟨.b, .c, .d⟩, .v (.bool v83_31))]) (fun v83_31 => [[.v (.int .u8 (x1.x0.toNat : Int)), .v (.int .u8 (x1.x1.toNat : Int))]]) (fun v83_31 => [(v12__27).length]) (by repeat (first | exact soft_c | refine soft_b ?_)) ?_ ?_
          · rintro v83_31 h
            try dsimp only at h
            try simp -implicitDefEqProofs
            refine go_join h [⟨.a, .b, .e⟩, ⟨.b, .c, .e⟩, ⟨.b, .c, .f⟩, ⟨.b, .c, .g⟩, ⟨.b, .c, .h⟩, ⟨.b, .d, .a⟩, ⟨.b, .d, .b⟩, ⟨.b, .d, .c⟩] (fun v12_38 => [(⟨.a, .b, .e⟩, .sl 3 (mp cPin v12_38) (.id 0))]) (fun v12_38 => [[.v (.int .u8 (x1.x0.toNat : Int)), .v (.int .u8 (x1.x1.toNat : Int))]]) (fun v12_38 => [(v12_38).length]) (by repeat (first | exact soft_c | refine soft_b ?_)) ?_ ?_
            · rintro v12_38 h
              try dsimp only at h
              try simp -implicitDefEqProofs
              refine go_seq ?_
              refine go_reg ?_
              refine run_join h [⟨.b, .d, .d⟩, ⟨.b, .d, .e⟩, ⟨.b, .d, .f⟩, ⟨.b, .d, .g⟩, ⟨.b, .d, .h⟩, ⟨.b, .e, .a⟩, ⟨.b, .e, .b⟩, ⟨.b, .e, .c⟩, ⟨.b, .e, .d⟩, ⟨.b, .e, .e⟩, ⟨.b, .e, .f⟩, ⟨.b, .e, .g⟩, ⟨.b, .e, .h⟩, ⟨.b, .f, .a⟩, ⟨.b, .f, .b⟩, ⟨.b, .f, .c⟩, ⟨.b, .f, .d⟩, ⟨.b, .f, .e⟩, ⟨.b, .f, .f⟩, ⟨.b, .f, .g⟩, ⟨.b, .f, .h⟩, ⟨.b, .g, .a⟩, ⟨.b, .g, .b⟩, ⟨.b, .g, .c⟩, ⟨.b, .g, .d⟩] (fun v115_46 => [(⟨.b, .g, .d⟩, .v (.bool v115_46))]) (fun v115_46 => [[.v (.int .u8 (x1.x0.toNat : Int)), .v (.int .u8 (x1.x1.toNat : Int))]]) (fun v115_46 => [(v12_38).length]) (by repeat (first | exact soft_c | refine soft_b ?_)) ?_ ?_
              · rintro v115_46 h
                try dsimp only at h
                try simp -implicitDefEqProofs
                refine go_cond ?_
                try simp -implicitDefEqProofs [c_30]
                repeat (with_reducible refine And.intro (by omega) ?_)
                first | with_reducible refine selP_ite h (by first | exact Iff.rfl | omega | (simp; done) | (simp [Pin.eqi, Edge.eqi, Lattice.eqi, Arr3U8.eqi, Arr4I8.eqi, Arr2U8.eqi]; done) | fail) ?_ ?_ | with_reducible refine selP_ite2 h (by first | exact Iff.rfl | omega | (simp; done) | (simp [Pin.eqi, Edge.eqi, Lattice.eqi, Arr3U8.eqi, Arr4I8.eqi, Arr2U8.eqi]; done) | fail) ?_ ?_ | with_reducible refine selP_ite h (by first | (simp only [Pin.eqi, Edge.eqi, Lattice.eqi, Arr3U8.eqi, Arr4I8.eqi, Arr2U8.eqi]; grind) | grind | fail) ?_ ?_ | with_reducible refine selP_ite2 h (by first | (simp only [Pin.eqi, Edge.eqi, Lattice.eqi, Arr3U8.eqi, Arr4I8.eqi, Arr2U8.eqi]; grind) | grind | fail) ?_ ?_
                · intro c_56 p_56 h
                  refine go_seq ?_
                  refine go_reg ?_
                  try simp -implicitDefEqProofs [c_30, c_56]
                  repeat (with_reducible refine And.intro (by omega) ?_)
                  obtain rfl := hR _ (Option.some.inj h).symm
                  try dsimp only at hn_26
                  have h := hn_26
                  obtain rfl := Option.some.inj h
                  refine go_ret ?_
                  simp -implicitDefEqProofs
                · intro c_56 p_56 h
                  have q_56 := eq_false_of_ne_true c_56
                  refine go_skip ?_
                  refine go_b ?_
                  refine go_reg ?_
                  obtain ⟨⟨c_58, c_59⟩, h⟩ := chk_elim h
                  try simp -implicitDefEqProofs [c_30, q_56, c_58, c_59]
                  repeat (with_reducible refine And.intro (by omega) ?_)
                  refine go_l ?_
                  exact hB _ _ (Option.some.inj h).symm (wkN_of 1 [] (by simp) (by simp) (by simp) (by simp) (by simp))
              · intro v E h hJ
                obtain ⟨⟨c_49, c_50⟩, h⟩ := chk_elim h
                have k_51 := toNat_lt c_49 c_50
                try simp -implicitDefEqProofs [c_30, c_49, k_51]
                repeat (with_reducible refine And.intro (by omega) ?_)
                first | with_reducible refine selP_ite h (by first | exact Iff.rfl | omega | (simp; done) | (simp [Pin.eqi, Edge.eqi, Lattice.eqi, Arr3U8.eqi, Arr4I8.eqi, Arr2U8.eqi]; done) | fail) ?_ ?_ | with_reducible refine selP_ite2 h (by first | exact Iff.rfl | omega | (simp; done) | (simp [Pin.eqi, Edge.eqi, Lattice.eqi, Arr3U8.eqi, Arr4I8.eqi, Arr2U8.eqi]; done) | fail) ?_ ?_ | with_reducible refine selP_ite h (by first | (simp only [Pin.eqi, Edge.eqi, Lattice.eqi, Arr3U8.eqi, Arr4I8.eqi, Arr2U8.eqi]; grind) | grind | fail) ?_ ?_ | with_reducible refine selP_ite2 h (by first | (simp only [Pin.eqi, Edge.eqi, Lattice.eqi, Arr3U8.eqi, Arr4I8.eqi, Arr2U8.eqi]; grind) | grind | fail) ?_ ?_
                · intro c_52 p_52 h
                  obtain ⟨w104_53, hc, h⟩ := bind_elim h
                  try simp -implicitDefEqProofs [c_30, c_49, k_51, c_52]
                  repeat (with_reducible refine And.intro (by omega) ?_)
                  refine runC_t (link_ref18_Has hc) (by simp) ?_
                  try simp -implicitDefEqProofs
                  repeat (with_reducible refine And.intro (by omega) ?_)
                  first | with_reducible refine selP_ite h (by first | exact Iff.rfl | omega | (simp; done) | (simp [Pin.eqi, Edge.eqi, Lattice.eqi, Arr3U8.eqi, Arr4I8.eqi, Arr2U8.eqi]; done) | fail) ?_ ?_ | with_reducible refine selP_ite2 h (by first | exact Iff.rfl | omega | (simp; done) | (simp [Pin.eqi, Edge.eqi, Lattice.eqi, Arr3U8.eqi, Arr4I8.eqi, Arr2U8.eqi]; done) | fail) ?_ ?_ | with_reducible refine selP_ite h (by first | (simp only [Pin.eqi, Edge.eqi, Lattice.eqi, Arr3U8.eqi, Arr4I8.eqi, Arr2U8.eqi]; grind) | grind | fail) ?_ ?_ | with_reducible refine selP_ite2 h (by first | (simp only [Pin.eqi, Edge.eqi, Lattice.eqi, Arr3U8.eqi, Arr4I8.eqi, Arr2U8.eqi]; grind) | grind | fail) ?_ ?_
                  · intro c_54 p_54 h
                    obtain ⟨w112_55, hc, h⟩ := bind_elim h
                    try simp -implicitDefEqProofs [c_30, c_49, k_51, c_54]
                    repeat (with_reducible refine And.intro (by omega) ?_)
                    refine runC_t (link_ref18_Has hc) (by simp) ?_
                    try simp -implicitDefEqProofs
                    repeat (with_reducible refine And.intro (by omega) ?_)
                    refine go_l ?_
                    obtain rfl := Option.some.inj h
                    exact hJ _ (wkN_of 1 [] (by simp [c_30]) (by simp [c_30]) (by simp) (by simp) (by simp))
                  · intro c_54 p_54 h
                    have q_54 := eq_false_of_ne_true c_54
                    try simp -implicitDefEqProofs [q_54]
                    repeat (with_reducible refine And.intro (by omega) ?_)
                    refine go_l ?_
                    obtain rfl := Option.some.inj h
                    exact hJ _ (wkN_of 1 [] (by simp [c_30]) (by simp [c_30]) (by simp) (by simp) (by simp))
                · intro c_52 p_52 h
                  try simp -implicitDefEqProofs [c_52]
                  repeat (with_reducible refine And.intro (by omega) ?_)
                  refine go_l ?_
                  obtain rfl := Option.some.inj h
                  exact hJ _ (wkN_of 1 [] (by simp [c_30]) (by simp [c_30]) (by simp) (by simp) (by simp))
            · intro v E h hJ
              refine go_cond ?_
              try simp -implicitDefEqProofs [c_30]
              repeat (with_reducible refine And.intro (by omega) ?_)
              first | with_reducible refine selP_ite h (by first | exact Iff.rfl | omega | (simp; done) | (simp [Pin.eqi, Edge.eqi, Lattice.eqi, Arr3U8.eqi, Arr4I8.eqi, Arr2U8.eqi]; done) | fail) ?_ ?_ | with_reducible refine selP_ite2 h (by first | exact Iff.rfl | omega | (simp; done) | (simp [Pin.eqi, Edge.eqi, Lattice.eqi, Arr3U8.eqi, Arr4I8.eqi, Arr2U8.eqi]; done) | fail) ?_ ?_ | with_reducible refine selP_ite h (by first | (simp only [Pin.eqi, Edge.eqi, Lattice.eqi, Arr3U8.eqi, Arr4I8.eqi, Arr2U8.eqi]; grind) | grind | fail) ?_ ?_ | with_reducible refine selP_ite2 h (by first | (simp only [Pin.eqi, Edge.eqi, Lattice.eqi, Arr3U8.eqi, Arr4I8.eqi, Arr2U8.eqi]; grind) | grind | fail) ?_ ?_
              · intro c_40 p_40 h
                refine go_reg ?_
                obtain ⟨⟨c_42, c_43⟩, h⟩ := chk_elim h
                have k_44 := toNat_lt c_42 c_43
                obtain ⟨c_45, h⟩ := chk_elim h
                try simp -implicitDefEqProofs [c_30, c_40, c_42, k_44]
                repeat (with_reducible refine And.intro (by omega) ?_)
                refine runR_apiT cPin v12__27 [at' w22_5 v13__28] (by first | rfl | simp) (elems_mp cPin _ _ [at' w22_5 v13__28] _) (by simp) c_45 ?_ (by decide)
                try simp -implicitDefEqProofs
                repeat (with_reducible refine And.intro (by omega) ?_)
                refine go_l ?_
                obtain rfl := Option.some.inj h
                exact hJ _ (wkN_of 1 [] (by simp [c_30, c_40]) (by simp [c_30, c_40]) (by simp) (by simp) (by simp))
              · intro c_40 p_40 h
                have q_40 := eq_false_of_ne_true c_40
                refine go_skip ?_
                refine go_l ?_
                obtain rfl := Option.some.inj h
                exact hJ _ (wkN_of 1 [] (by simp [c_30, c_40]) (by simp [c_30, c_40]) (by simp) (by simp) (by simp))
          · intro v E h hJ
            obtain ⟨⟨c_34, c_35⟩, h⟩ := chk_elim h
            have k_36 := toNat_lt c_34 c_35
            try simp -implicitDefEqProofs [c_30, c_34, k_36]
            repeat (with_reducible refine And.intro (by omega) ?_)
            first | with_reducible refine selP_ite h (by first | exact Iff.rfl | omega | (simp; done) | (simp [Pin.eqi, Edge.eqi, Lattice.eqi, Arr3U8.eqi, Arr4I8.eqi, Arr2U8.eqi]; done) | fail) ?_ ?_ | with_reducible refine selP_ite2 h (by first | exact Iff.rfl | omega | (simp; done) | (simp [Pin.eqi, Edge.eqi, Lattice.eqi, Arr3U8.eqi, Arr4I8.eqi, Arr2U8.eqi]; done) | fail) ?_ ?_ | with_reducible refine selP_ite h (by first | (simp only [Pin.eqi, Edge.eqi, Lattice.eqi, Arr3U8.eqi, Arr4I8.eqi, Arr2U8.eqi]; grind) | grind | fail) ?_ ?_ | with_reducible refine selP_ite2 h (by first | (simp only [Pin.eqi, Edge.eqi, Lattice.eqi, Arr3U8.eqi, Arr4I8.eqi, Arr2U8.eqi]; grind) | grind | fail) ?_ ?_
            · intro c_37 p_37 h
              try simp -implicitDefEqProofs [c_37]
              repeat (with_reducible refine And.intro (by omega) ?_)
              refine go_l ?_
              obtain rfl := Option.some.inj h
              exact hJ _ (wkN_of 1 [] (by simp [c_30]) (by simp [c_30]) (by simp) (by simp) (by simp))
            · intro c_37 p_37 h
              try simp -implicitDefEqProofs [c_30, c_34, k_36, c_37]
              repeat (with_reducible refine And.intro (by omega) ?_)
              refine go_l ?_
              obtain rfl := Option.some.inj h
              exact hJ _ (wkN_of 1 [] (by simp [c_30]) (by simp [c_30]) (by simp) (by simp) (by simp))
        · intro c_30 p_30 h
          refine go_exit ?_
          simp -implicitDefEqProofs
          exact hE _ _ (Option.some.inj h).symm (wkN_of 1 [] (by simp [c_30]) (by simp) (by simp) (by simp) (by simp))
  · intro v E h hJ
    obtain ⟨w41_16, hc, h⟩ := bind_elim h
    try simp -implicitDefEqProofs [c_7, c_8]
    repeat (with_reducible refine And.intro (by omega) ?_)
    refine runC_t (link_ref18_Valid hc) (by simp) ?_
    try simp -implicitDefEqProofs
    repeat (with_reducible refine And.intro (by omega) ?_)
    first | with_reducible refine selP_ite h (by first | exact Iff.rfl | omega | (simp; done) | (simp [Pin.eqi, Edge.eqi, Lattice.eqi, Arr3U8.eqi, Arr4I8.eqi, Arr2U8.eqi]; done) | fail) ?_ ?_ | with_reducible refine selP_ite2 h (by first | exact Iff.rfl | omega | (simp; done) | (simp [Pin.eqi, Edge.eqi, Lattice.eqi, Arr3U8.eqi, Arr4I8.eqi, Arr2U8.eqi]; done) | fail) ?_ ?_ | with_reducible refine selP_ite h (by first | (simp only [Pin.eqi, Edge.eqi, Lattice.eqi, Arr3U8.eqi, Arr4I8.eqi, Arr2U8.eqi]; grind) | grind | fail) ?_ ?_ | with_reducible refine selP_ite2 h (by first | (simp only [Pin.eqi, Edge.eqi, Lattice.eqi, Arr3U8.eqi, Arr4I8.eqi, Arr2U8.eqi]; grind) | grind | fail) ?_ ?_
    · intro c_17 p_17 h
      obtain ⟨w46_18, hc, h⟩ := bind_elim h
      try simp -implicitDefEqProofs [c_17]
      repeat (with_reducible refine And.intro (by omega) ?_)
      refine runC_t (link_ref18_Valid hc) (by simp) ?_
      try simp -implicitDefEqProofs
      repeat (with_reducible refine And.intro (by omega) ?_)
      first | with_reducible refine selP_ite h (by first | exact Iff.rfl | omega | (simp; done) | (simp [Pin.eqi, Edge.eqi, Lattice.eqi, Arr3U8.eqi, Arr4I8.eqi, Arr2U8.eqi]; done) | fail) ?_ ?_ | with_reducible refine selP_ite2 h (by first | exact Iff.rfl | omega | (simp; done) | (simp [Pin.eqi, Edge.eqi, Lattice.eqi, Arr3U8.eqi, Arr4I8.eqi, Arr2U8.eqi]; done) | fail) ?_ ?_ | with_reducible refine selP_ite h (by first | (simp only [Pin.eqi, Edge.eqi, Lattice.eqi, Arr3U8.eqi, Arr4I8.eqi, Arr2U8.eqi]; grind) | grind | fail) ?_ ?_ | with_reducible refine selP_ite2 h (by first | (simp only [Pin.eqi, Edge.eqi, Lattice.eqi, Arr3U8.eqi, Arr4I8.eqi, Arr2U8.eqi]; grind) | grind | fail) ?_ ?_
      · intro c_19 p_19 h
        try simp -implicitDefEqProofs [c_19]
        repeat (with_reducible refine And.intro (by omega) ?_)
        first | with_reducible refine selP_ite h (by first | exact Iff.rfl | omega | (simp; done) | (simp [Pin.eqi, Edge.eqi, Lattice.eqi, Arr3U8.eqi, Arr4I8.eqi, Arr2U8.eqi]; done) | fail) ?_ ?_ | with_reducible refine selP_ite2 h (by first | exact Iff.rfl | omega | (simp; done) | (simp [Pin.eqi, Edge.eqi, Lattice.eqi, Arr3U8.eqi, Arr4I8.eqi, Arr2U8.eqi]; done) | fail) ?_ ?_ | with_reducible refine selP_ite h (by first | (simp only [Pin.eqi, Edge.eqi, Lattice.eqi, Arr3U8.eqi, Arr4I8.eqi, Arr2U8.eqi]; grind) | grind | fail) ?_ ?_ | with_reducible refine selP_ite2 h (by first | (simp only [Pin.eqi, Edge.eqi, Lattice.eqi, Arr3U8.eqi, Arr4I8.eqi, Arr2U8.eqi]; grind) | grind | fail) ?_ ?_
        · intro c_20 p_20 h
          obtain ⟨⟨c_22, c_23⟩, h⟩ := chk_elim h
          obtain ⟨w57_24, hc, h⟩ := bind_elim h
          try simp -implicitDefEqProofs [c_20, c_22, c_23]
          repeat (with_reducible refine And.intro (by omega) ?_)
          refine runC_t (link_ref18_Valid hc) (by simp) ?_
          try simp -implicitDefEqProofs
          repeat (with_reducible refine And.intro (by omega) ?_)
          refine go_l ?_
          obtain rfl := Option.some.inj h
          exact hJ _ (wkN_of 0 [] (by simp) (by simp) (by simp) (by simp) (by simp))
        · intro c_20 p_20 h
          try simp -implicitDefEqProofs [c_20]
          repeat (with_reducible refine And.intro (by omega) ?_)
          refine go_l ?_
          obtain rfl := Option.some.inj h
          exact hJ _ (wkN_of 0 [] (by simp) (by simp) (by simp) (by simp) (by simp))
      · intro c_19 p_19 h
        have q_19 := eq_false_of_ne_true c_19
        try simp -implicitDefEqProofs [q_19]
        repeat (with_reducible refine And.intro (by omega) ?_)
        refine go_l ?_
        obtain rfl := Option.some.inj h
        exact hJ _ (wkN_of 0 [] (by simp) (by simp) (by simp) (by simp) (by simp))
    · intro c_17 p_17 h
      have q_17 := eq_false_of_ne_true c_17
      try simp -implicitDefEqProofs [q_17]
      repeat (with_reducible refine And.intro (by omega) ?_)
      refine go_l ?_
      obtain rfl := Option.some.inj h
      exact hJ _ (wkN_of 0 [] (by simp) (by simp) (by simp) (by simp) (by simp))
end Go.Proofs.Ytdkancgcefklfaa
