/-
  Typed functions that compute what the functions 9 of the program compute, and that they do.
-/
import Derived.Test.YtdkancgcefklfaaK8
namespace Go.Proofs.Ytdkancgcefklfaa
open Go.RowKit

def law18_sanity : Option Bool :=
  (pin_Put [(⟨0, 2, 5⟩ : Pin), (⟨3, 6, (-1)⟩ : Pin)] (⟨2, 4, (-1)⟩ : Pin) 6).bind fun w23_1 =>
  (pin_Put [] (⟨4, 4, (-1)⟩ : Pin) 6).bind fun w28_2 =>
  (pin_Put [(⟨3, 6, (-1)⟩ : Pin)] (⟨0, 2, 5⟩ : Pin) 5).bind fun w35_3 =>
  (pin_Restrict (⟨2, [(⟨0, 1, 0, 0⟩ : Edge), (⟨0, 2, 0, 0⟩ : Edge), (⟨1, 2, 0, 0⟩ : Edge)]⟩ : Lattice) [(⟨0, 2, (-1)⟩ : Pin)]).bind fun w46_4 =>
  (
    (
      if w23_1.2 = 0 then (
        (ref18_Same w23_1.1 [(⟨0, 2, 5⟩ : Pin), (⟨2, 4, (-1)⟩ : Pin)]).bind fun w54_8 =>
        if w54_8 = true then (
          if w28_2.2 = 180 then (
            if w35_3.2 = 180 then (
              (ref18_SameEdges w46_4 (⟨2, [(⟨0, 2, 0, 0⟩ : Edge)]⟩ : Lattice)).bind fun w69_12 =>
              some w69_12
            ) else (
              some false
            )
          ) else (
            some false
          )
        ) else (
          some false
        )
      ) else (
        some false
      )
    : Option (Bool))
  ).bind fun v12_5 =>
  (
    (
      (pin_Insert [(⟨0, 2, 5⟩ : Pin), (⟨2, 4, (-1)⟩ : Pin)] 2).bind fun w74_15 =>
      (ref18_Same w74_15 [(⟨0, 2, 5⟩ : Pin), (⟨3, 5, (-1)⟩ : Pin)]).bind fun w78_16 =>
      if w78_16 = true then (
        (pin_Insert [(⟨1, 3, (-1)⟩ : Pin)] 2).bind fun w82_18 =>
        some (decide ((w82_18.length : Int) = 0))
      ) else (
        some false
      )
    : Option (Bool))
  ).bind fun v13_13 =>
  (
    (
      (pin_Delete [(⟨0, 2, 5⟩ : Pin), (⟨3, 5, (-1)⟩ : Pin)] 2).bind fun w89_21 =>
      (ref18_Same w89_21 [(⟨0, 2, 5⟩ : Pin), (⟨2, 4, (-1)⟩ : Pin)]).bind fun w93_22 =>
      if w93_22 = true then (
        (pin_Delete [(⟨2, 4, (-1)⟩ : Pin)] 2).bind fun w97_24 =>
        some (decide ((w97_24.length : Int) = 0))
      ) else (
        some false
      )
    : Option (Bool))
  ).bind fun v14_19 =>
  (
    (
      if v12_5 = true then (
        if v13_13 = true then (
          if v14_19 = true then (
            (pin_Valid [(⟨0, 2, 5⟩ : Pin), (⟨3, 6, (-1)⟩ : Pin)] 6).bind fun w112_30 =>
            if w112_30 = true then (
              (pin_Valid [(⟨3, 6, (-1)⟩ : Pin), (⟨0, 2, 5⟩ : Pin)] 6).bind fun w118_32 =>
              if w118_32 = true then (
                some false
              ) else (
                (pin_Valid [] 41).bind fun w122_34 =>
                some (!w122_34)
              )
            ) else (
              some false
            )
          ) else (
            some false
          )
        ) else (
          some false
        )
      ) else (
        some false
      )
    : Option (Bool))
  ).bind fun v0_25 =>
  some v0_25
theorem link_law18_sanity {r : Bool} (h : law18_sanity  = some r) : PCalls Try.prog 9 [] (.v (.bool r)) := by
  unfold law18_sanity at h
  refine pcalls is9 na9 ?_
  try simp -implicitDefEqProofs
  refine go_seq ?_
  refine go_reg ?_
  try simp -implicitDefEqProofs
  repeat (with_reducible refine And.intro (by omega) ?_)
  refine go_seq ?_
  refine go_reg ?_
  try simp -implicitDefEqProofs
  repeat (with_reducible refine And.intro (by omega) ?_)
  refine go_seq ?_
  refine go_reg ?_
  obtain ⟨w23_1, hc, h⟩ := bind_elim h
  try simp -implicitDefEqProofs
  repeat (with_reducible refine And.intro (by omega) ?_)
  refine runC_t (link_pin_Put hc) (by simp) ?_
  try simp -implicitDefEqProofs
  repeat (with_reducible refine And.intro (by omega) ?_)
  refine go_seq ?_
  refine go_reg ?_
  obtain ⟨w28_2, hc, h⟩ := bind_elim h
  try simp -implicitDefEqProofs
  repeat (with_reducible refine And.intro (by omega) ?_)
  refine runC_t (link_pin_Put hc) (by simp) ?_
  try simp -implicitDefEqProofs
  repeat (with_reducible refine And.intro (by omega) ?_)
  refine go_seq ?_
  refine go_reg ?_
  obtain ⟨w35_3, hc, h⟩ := bind_elim h
  try simp -implicitDefEqProofs
  repeat (with_reducible refine And.intro (by omega) ?_)
  refine runC_t (link_pin_Put hc) (by simp) ?_
  try simp -implicitDefEqProofs
  repeat (with_reducible refine And.intro (by omega) ?_)
  refine go_seq ?_
  refine go_reg ?_
  try simp -implicitDefEqProofs
  repeat (with_reducible refine And.intro (by omega) ?_)
  refine go_seq ?_
  refine go_reg ?_
  obtain ⟨w46_4, hc, h⟩ := bind_elim h
  try simp -implicitDefEqProofs
  repeat (with_reducible refine And.intro (by omega) ?_)
  refine runC_t (link_pin_Restrict hc) (by simp) ?_
  try simp -implicitDefEqProofs
  repeat (with_reducible refine And.intro (by omega) ?_)
  refine go_seq ?_
  refine go_reg ?_
  refine run_join h [⟨.a, .b, .e⟩, ⟨.a, .f, .h⟩, ⟨.a, .g, .a⟩, ⟨.a, .g, .b⟩, ⟨.a, .g, .c⟩, ⟨.a, .g, .d⟩, ⟨.a, .g, .e⟩, ⟨.a, .g, .f⟩, ⟨.a, .g, .g⟩, ⟨.a, .g, .h⟩, ⟨.a, .h, .a⟩, ⟨.a, .h, .b⟩, ⟨.a, .h, .c⟩, ⟨.a, .h, .d⟩, ⟨.a, .h, .e⟩, ⟨.a, .h, .f⟩, ⟨.a, .h, .g⟩, ⟨.a, .h, .h⟩, ⟨.b, .a, .a⟩, ⟨.b, .a, .b⟩, ⟨.b, .a, .c⟩, ⟨.b, .a, .d⟩, ⟨.b, .a, .e⟩, ⟨.b, .a, .f⟩, ⟨.b, .a, .g⟩] (fun v12_5 => [(⟨.a, .b, .e⟩, .v (.bool v12_5))]) (fun v12_5 => [[.v (.int .i64 0), .v (.int .i64 2), .v (.int .i64 5)], [.v (.int .i64 3), .v (.int .i64 6), .v (.int .i64 (-1))], [.v (.int .i64 2), .v (.int .i64 4), .v (.int .i64 (-1))], [.v (.int .i64 2), .sl 4 (mp cEdge [(⟨0, 1, 0, 0⟩ : Edge), (⟨0, 2, 0, 0⟩ : Edge), (⟨1, 2, 0, 0⟩ : Edge)]) .full], [.v (.int .i64 w46_4.N), .sl 4 (mp cEdge w46_4.Edges) .none]]) (fun v12_5 => []) (by repeat (first | exact soft_c | refine soft_b ?_)) ?_ ?_
  · rintro v12_5 h
    try dsimp only at h
    try simp -implicitDefEqProofs
    refine go_seq ?_
    refine go_reg ?_
    refine run_join h [⟨.a, .b, .f⟩, ⟨.b, .a, .h⟩, ⟨.b, .b, .a⟩, ⟨.b, .b, .b⟩, ⟨.b, .b, .c⟩, ⟨.b, .b, .d⟩, ⟨.b, .b, .e⟩, ⟨.b, .b, .f⟩, ⟨.b, .b, .g⟩, ⟨.b, .b, .h⟩, ⟨.b, .c, .a⟩, ⟨.b, .c, .b⟩, ⟨.b, .c, .c⟩, ⟨.b, .c, .d⟩, ⟨.b, .c, .e⟩, ⟨.b, .c, .f⟩] (fun v13_13 => [(⟨.a, .b, .f⟩, .v (.bool v13_13))]) (fun v13_13 => [[.v (.int .i64 0), .v (.int .i64 2), .v (.int .i64 5)], [.v (.int .i64 3), .v (.int .i64 6), .v (.int .i64 (-1))], [.v (.int .i64 2), .v (.int .i64 4), .v (.int .i64 (-1))], [.v (.int .i64 2), .sl 4 (mp cEdge [(⟨0, 1, 0, 0⟩ : Edge), (⟨0, 2, 0, 0⟩ : Edge), (⟨1, 2, 0, 0⟩ : Edge)]) .full], [.v (.int .i64 w46_4.N), .sl 4 (mp cEdge w46_4.Edges) .none]]) (fun v13_13 => []) (by repeat (first | exact soft_c | refine soft_b ?_)) ?_ ?_
    · rintro v13_13 h
      try dsimp only at h
      try simp -implicitDefEqProofs
      refine go_seq ?_
      refine go_reg ?_
      refine run_join h [⟨.a, .b, .g⟩, ⟨.b, .c, .g⟩, ⟨.b, .c, .h⟩, ⟨.b, .d, .a⟩, ⟨.b, .d, .b⟩, ⟨.b, .d, .c⟩, ⟨.b, .d, .d⟩, ⟨.b, .d, .e⟩, ⟨.b, .d, .f⟩, ⟨.b, .d, .g⟩, ⟨.b, .d, .h⟩, ⟨.b, .e, .a⟩, ⟨.b, .e, .b⟩, ⟨.b, .e, .c⟩, ⟨.b, .e, .d⟩, ⟨.b, .e, .e⟩] (fun v14_19 => [(⟨.a, .b, .g⟩, .v (.bool v14_19))]) (fun v14_19 => [[.v (.int .i64 0), .v (.int .i64 2), .v (.int .i64 5)], [.v (.int .i64 3), .v (.int .i64 6), .v (.int .i64 (-1))], [.v (.int .i64 2), .v (.int .i64 4), .v (.int .i64 (-1))], [.v (.int .i64 2), .sl 4 (mp cEdge [(⟨0, 1, 0, 0⟩ : Edge), (⟨0, 2, 0, 0⟩ : Edge), (⟨1, 2, 0, 0⟩ : Edge)]) .full], [.v (.int .i64 w46_4.N), .sl 4 (mp cEdge w46_4.Edges) .none]]) (fun v14_19 => []) (by repeat (first | exact soft_c | refine soft_b ?_)) ?_ ?_
      · rintro v14_19 h
        try dsimp only at h
        try simp -implicitDefEqProofs
        refine go_seq ?_
        refine go_reg ?_
        refine run_join h [⟨.a, .a, .a⟩, ⟨.b, .e, .f⟩, ⟨.b, .e, .g⟩, ⟨.b, .e, .h⟩, ⟨.b, .f, .a⟩, ⟨.b, .f, .b⟩, ⟨.b, .f, .c⟩, ⟨.b, .f, .d⟩, ⟨.b, .f, .e⟩, ⟨.b, .f, .f⟩, ⟨.b, .f, .g⟩, ⟨.b, .f, .h⟩, ⟨.b, .g, .a⟩, ⟨.b, .g, .b⟩, ⟨.b, .g, .c⟩, ⟨.b, .g, .d⟩, ⟨.b, .g, .e⟩, ⟨.b, .g, .f⟩, ⟨.b, .g, .g⟩, ⟨.b, .g, .h⟩, ⟨.b, .h, .a⟩, ⟨.b, .h, .b⟩, ⟨.b, .h, .c⟩, ⟨.b, .h, .d⟩, ⟨.b, .h, .e⟩] (fun v0_25 => [(⟨.a, .a, .a⟩, .v (.bool v0_25))]) (fun v0_25 => [[.v (.int .i64 0), .v (.int .i64 2), .v (.int .i64 5)], [.v (.int .i64 3), .v (.int .i64 6), .v (.int .i64 (-1))], [.v (.int .i64 2), .v (.int .i64 4), .v (.int .i64 (-1))], [.v (.int .i64 2), .sl 4 (mp cEdge [(⟨0, 1, 0, 0⟩ : Edge), (⟨0, 2, 0, 0⟩ : Edge), (⟨1, 2, 0, 0⟩ : Edge)]) .full], [.v (.int .i64 w46_4.N), .sl 4 (mp cEdge w46_4.Edges) .none]]) (fun v0_25 => []) (by repeat (first | exact soft_c | refine soft_b ?_)) ?_ ?_
        · rintro v0_25 h
          try dsimp only at h
          try simp -implicitDefEqProofs
          obtain rfl := Option.some.inj h
          refine go_ret ?_
          simp -implicitDefEqProofs
        · intro v E h hJ
          try simp -implicitDefEqProofs
          repeat (with_reducible refine And.intro (by omega) ?_)
          first | with_reducible refine selP_ite h (by first | exact Iff.rfl | omega | (simp; done) | (simp [Pin.eqi, Edge.eqi, Lattice.eqi]; done) | fail) ?_ ?_ | with_reducible refine selP_ite2 h (by first | exact Iff.rfl | omega | (simp; done) | (simp [Pin.eqi, Edge.eqi, Lattice.eqi]; done) | fail) ?_ ?_ | with_reducible refine selP_ite h (by first | (simp only [Pin.eqi, Edge.eqi, Lattice.eqi]; grind) | grind | fail) ?_ ?_ | with_reducible refine selP_ite2 h (by first | (simp only [Pin.eqi, Edge.eqi, Lattice.eqi]; grind) | grind | fail) ?_ ?_
          · intro c_27 p_27 h
            try simp -implicitDefEqProofs [c_27]
            repeat (with_reducible refine And.intro (by omega) ?_)
            first | with_reducible refine selP_ite h (by first | exact Iff.rfl | omega | (simp; done) | (simp [Pin.eqi, Edge.eqi, Lattice.eqi]; done) | fail) ?_ ?_ | with_reducible refine selP_ite2 h (by first | exact Iff.rfl | omega | (simp; done) | (simp [Pin.eqi, Edge.eqi, Lattice.eqi]; done) | fail) ?_ ?_ | with_reducible refine selP_ite h (by first | (simp only [Pin.eqi, Edge.eqi, Lattice.eqi]; grind) | grind | fail) ?_ ?_ | with_reducible refine selP_ite2 h (by first | (simp only [Pin.eqi, Edge.eqi, Lattice.eqi]; grind) | grind | fail) ?_ ?_
            · intro c_28 p_28 h
              try simp -implicitDefEqProofs [c_28]
              repeat (with_reducible refine And.intro (by omega) ?_)
              first | with_reducible refine selP_ite h (by first | exact Iff.rfl | omega | (simp; done) | (simp [Pin.eqi, Edge.eqi, Lattice.eqi]; done) | fail) ?_ ?_ | with_reducible refine selP_ite2 h (by first | exact Iff.rfl | omega | (simp; done) | (simp [Pin.eqi, Edge.eqi, Lattice.eqi]; done) | fail) ?_ ?_ | with_reducible refine selP_ite h (by first | (simp only [Pin.eqi, Edge.eqi, Lattice.eqi]; grind) | grind | fail) ?_ ?_ | with_reducible refine selP_ite2 h (by first | (simp only [Pin.eqi, Edge.eqi, Lattice.eqi]; grind) | grind | fail) ?_ ?_
              · intro c_29 p_29 h
                obtain ⟨w112_30, hc, h⟩ := bind_elim h
                try simp -implicitDefEqProofs [c_29]
                repeat (with_reducible refine And.intro (by omega) ?_)
                refine runC_t (link_pin_Valid hc) (by simp) ?_
                try simp -implicitDefEqProofs
                repeat (with_reducible refine And.intro (by omega) ?_)
                first | with_reducible refine selP_ite h (by first | exact Iff.rfl | omega | (simp; done) | (simp [Pin.eqi, Edge.eqi, Lattice.eqi]; done) | fail) ?_ ?_ | with_reducible refine selP_ite2 h (by first | exact Iff.rfl | omega | (simp; done) | (simp [Pin.eqi, Edge.eqi, Lattice.eqi]; done) | fail) ?_ ?_ | with_reducible refine selP_ite h (by first | (simp only [Pin.eqi, Edge.eqi, Lattice.eqi]; grind) | grind | fail) ?_ ?_ | with_reducible refine selP_ite2 h (by first | (simp only [Pin.eqi, Edge.eqi, Lattice.eqi]; grind) | grind | fail) ?_ ?_
                · intro c_31 p_31 h
                  obtain ⟨w118_32, hc, h⟩ := bind_elim h
                  try simp -implicitDefEqProofs [c_31]
                  repeat (with_reducible refine And.intro (by omega) ?_)
                  refine runC_t (link_pin_Valid hc) (by simp) ?_
                  try simp -implicitDefEqProofs
                  repeat (with_reducible refine And.intro (by omega) ?_)
                  first | with_reducible refine selP_ite h (by first | exact Iff.rfl | omega | (simp; done) | (simp; done) | fail) ?_ ?_ | with_reducible refine selP_ite2 h (by first | exact Iff.rfl | omega | (simp; done) | (simp [Pin.eqi, Edge.eqi, Lattice.eqi]; done) | fail) ?_ ?_ | with_reducible refine selP_ite h (by first | (simp only [Pin.eqi, Edge.eqi, Lattice.eqi]; grind) | grind | fail) ?_ ?_ | with_reducible refine selP_ite2 h (by first | (simp only [Pin.eqi, Edge.eqi, Lattice.eqi]; grind) | grind | fail) ?_ ?_
                  · intro c_33 p_33 h
                    try simp -implicitDefEqProofs [c_33]
                    repeat (with_reducible refine And.intro (by omega) ?_)
                    refine go_l ?_
                    obtain rfl := Option.some.inj h
                    exact hJ _ (wkN_of 0 [] (by simp [c_27, c_28, c_29]) (by simp [c_27, c_28, c_29]) (by simp) (by simp) (by simp))
                  · intro c_33 p_33 h
                    have q_33 := eq_false_of_ne_true c_33
                    obtain ⟨w122_34, hc, h⟩ := bind_elim h
                    try simp -implicitDefEqProofs [p_33]
                    repeat (with_reducible refine And.intro (by omega) ?_)
                    refine runC_t (link_pin_Valid hc) (by simp) ?_
                    try simp -implicitDefEqProofs
                    repeat (with_reducible refine And.intro (by omega) ?_)
                    refine go_l ?_
                    obtain rfl := Option.some.inj h
                    exact hJ _ (wkN_of 0 [] (by simp [c_27, c_28, c_29]) (by simp [c_27, c_28, c_29]) (by simp) (by simp) (by simp))
                · intro c_31 p_31 h
                  have q_31 := eq_false_of_ne_true c_31
                  try simp -implicitDefEqProofs [q_31]
                  repeat (with_reducible refine And.intro (by omega) ?_)
                  refine go_l ?_
                  obtain rfl := Option.some.inj h
                  exact hJ _ (wkN_of 0 [] (by simp [c_27, c_28, c_29]) (by simp [c_27, c_28, c_29]) (by simp) (by simp) (by simp))
              · intro c_29 p_29 h
                have q_29 := eq_false_of_ne_true c_29
                try simp -implicitDefEqProofs [q_29]
                repeat (with_reducible refine And.intro (by omega) ?_)
                refine go_l ?_
                obtain rfl := Option.some.inj h
                exact hJ _ (wkN_of 0 [] (by simp [c_27, c_28, c_29]) (by simp [c_27, c_28, c_29]) (by simp) (by simp) (by simp))
            · intro c_28 p_28 h
              have q_28 := eq_false_of_ne_true c_28
              try simp -implicitDefEqProofs [q_28]
              repeat (with_reducible refine And.intro (by omega) ?_)
              refine go_l ?_
              obtain rfl := Option.some.inj h
              exact hJ _ (wkN_of 0 [] (by simp [c_27, c_28]) (by simp [c_27, c_28]) (by simp) (by simp) (by simp))
          · intro c_27 p_27 h
            have q_27 := eq_false_of_ne_true c_27
            try simp -implicitDefEqProofs [q_27]
            repeat (with_reducible refine And.intro (by omega) ?_)
            refine go_l ?_
            obtain rfl := Option.some.inj h
            exact hJ _ (wkN_of 0 [] (by simp [c_27]) (by simp [c_27]) (by simp) (by simp) (by simp))
      · intro v E h hJ
        obtain ⟨w89_21, hc, h⟩ := bind_elim h
        try simp -implicitDefEqProofs
        repeat (with_reducible refine And.intro (by omega) ?_)
        refine runC_t (link_pin_Delete hc) (by simp) ?_
        obtain ⟨w93_22, hc, h⟩ := bind_elim h
        try simp -implicitDefEqProofs
        repeat (with_reducible refine And.intro (by omega) ?_)
        refine runC_t (link_ref18_Same hc) (by simp) ?_
        try simp -implicitDefEqProofs
        repeat (with_reducible refine And.intro (by omega) ?_)
        first | with_reducible refine selP_ite h (by first | exact Iff.rfl | omega | (simp; done) | (simp [Pin.eqi, Edge.eqi, Lattice.eqi]; done) | fail) ?_ ?_ | with_reducible refine selP_ite2 h (by first | exact Iff.rfl | omega | (simp; done) | (simp [Pin.eqi, Edge.eqi, Lattice.eqi]; done) | fail) ?_ ?_ | with_reducible refine selP_ite h (by first | (simp only [Pin.eqi, Edge.eqi, Lattice.eqi]; grind) | grind | fail) ?_ ?_ | with_reducible refine selP_ite2 h (by first | (simp only [Pin.eqi, Edge.eqi, Lattice.eqi]; grind) | grind | fail) ?_ ?_
        · intro c_23 p_23 h
          obtain ⟨w97_24, hc, h⟩ := bind_elim h
          try simp -implicitDefEqProofs [c_23]
          repeat (with_reducible refine And.intro (by omega) ?_)
          refine runC_t (link_pin_Delete hc) (by simp) ?_
          try simp -implicitDefEqProofs
          repeat (with_reducible refine And.intro (by omega) ?_)
          refine go_l ?_
          obtain rfl := Option.some.inj h
          exact hJ _ (wkN_of 0 [] (by simp) (by simp) (by simp) (by simp) (by simp))
        · intro c_23 p_23 h
          have q_23 := eq_false_of_ne_true c_23
          try simp -implicitDefEqProofs [q_23]
          repeat (with_reducible refine And.intro (by omega) ?_)
          refine go_l ?_
          obtain rfl := Option.some.inj h
          exact hJ _ (wkN_of 0 [] (by simp) (by simp) (by simp) (by simp) (by simp))
    · intro v E h hJ
      obtain ⟨w74_15, hc, h⟩ := bind_elim h
      try simp -implicitDefEqProofs
      repeat (with_reducible refine And.intro (by omega) ?_)
      refine runC_t (link_pin_Insert hc) (by simp) ?_
      obtain ⟨w78_16, hc, h⟩ := bind_elim h
      try simp -implicitDefEqProofs
      repeat (with_reducible refine And.intro (by omega) ?_)
      refine runC_t (link_ref18_Same hc) (by simp) ?_
      try simp -implicitDefEqProofs
      repeat (with_reducible refine And.intro (by omega) ?_)
      first | with_reducible refine selP_ite h (by first | exact Iff.rfl | omega | (simp; done) | (simp [Pin.eqi, Edge.eqi, Lattice.eqi]; done) | fail) ?_ ?_ | with_reducible refine selP_ite2 h (by first | exact Iff.rfl | omega | (simp; done) | (simp [Pin.eqi, Edge.eqi, Lattice.eqi]; done) | fail) ?_ ?_ | with_reducible refine selP_ite h (by first | (simp only [Pin.eqi, Edge.eqi, Lattice.eqi]; grind) | grind | fail) ?_ ?_ | with_reducible refine selP_ite2 h (by first | (simp only [Pin.eqi, Edge.eqi, Lattice.eqi]; grind) | grind | fail) ?_ ?_
      · intro c_17 p_17 h
        obtain ⟨w82_18, hc, h⟩ := bind_elim h
        try simp -implicitDefEqProofs [c_17]
        repeat (with_reducible refine And.intro (by omega) ?_)
        refine runC_t (link_pin_Insert hc) (by simp) ?_
        try simp -implicitDefEqProofs
        repeat (with_reducible refine And.intro (by omega) ?_)
        refine go_l ?_
        obtain rfl := Option.some.inj h
        exact hJ _ (wkN_of 0 [] (by simp) (by simp) (by simp) (by simp) (by simp))
      · intro c_17 p_17 h
        have q_17 := eq_false_of_ne_true c_17
        try simp -implicitDefEqProofs [q_17]
        repeat (with_reducible refine And.intro (by omega) ?_)
        refine go_l ?_
        obtain rfl := Option.some.inj h
        exact hJ _ (wkN_of 0 [] (by simp) (by simp) (by simp) (by simp) (by simp))
  · intro v E h hJ
    try simp -implicitDefEqProofs
    repeat (with_reducible refine And.intro (by omega) ?_)
    first | with_reducible refine selP_ite h (by first | exact Iff.rfl | omega | (simp; done) | (simp [Pin.eqi, Edge.eqi, Lattice.eqi]; done) | fail) ?_ ?_ | with_reducible refine selP_ite2 h (by first | exact Iff.rfl | omega | (simp; done) | (simp [Pin.eqi, Edge.eqi, Lattice.eqi]; done) | fail) ?_ ?_ | with_reducible refine selP_ite h (by first | (simp only [Pin.eqi, Edge.eqi, Lattice.eqi]; grind) | grind | fail) ?_ ?_ | with_reducible refine selP_ite2 h (by first | (simp only [Pin.eqi, Edge.eqi, Lattice.eqi]; grind) | grind | fail) ?_ ?_
    · intro c_7 p_7 h
      obtain ⟨w54_8, hc, h⟩ := bind_elim h
      try simp -implicitDefEqProofs [c_7]
      repeat (with_reducible refine And.intro (by omega) ?_)
      refine runC_t (link_ref18_Same hc) (by simp) ?_
      try simp -implicitDefEqProofs
      repeat (with_reducible refine And.intro (by omega) ?_)
      first | with_reducible refine selP_ite h (by first | exact Iff.rfl | omega | (simp; done) | (simp [Pin.eqi, Edge.eqi, Lattice.eqi]; done) | fail) ?_ ?_ | with_reducible refine selP_ite2 h (by first | exact Iff.rfl | omega | (simp; done) | (simp [Pin.eqi, Edge.eqi, Lattice.eqi]; done) | fail) ?_ ?_ | with_reducible refine selP_ite h (by first | (simp only [Pin.eqi, Edge.eqi, Lattice.eqi]; grind) | grind | fail) ?_ ?_ | with_reducible refine selP_ite2 h (by first | (simp only [Pin.eqi, Edge.eqi, Lattice.eqi]; grind) | grind | fail) ?_ ?_
      · intro c_9 p_9 h
        try simp -implicitDefEqProofs [c_9]
        repeat (with_reducible refine And.intro (by omega) ?_)
        first | with_reducible refine selP_ite h (by first | exact Iff.rfl | omega | (simp; done) | (simp [Pin.eqi, Edge.eqi, Lattice.eqi]; done) | fail) ?_ ?_ | with_reducible refine selP_ite2 h (by first | exact Iff.rfl | omega | (simp; done) | (simp [Pin.eqi, Edge.eqi, Lattice.eqi]; done) | fail) ?_ ?_ | with_reducible refine selP_ite h (by first | (simp only [Pin.eqi, Edge.eqi, Lattice.eqi]; grind) | grind | fail) ?_ ?_ | with_reducible refine selP_ite2 h (by first | (simp only [Pin.eqi, Edge.eqi, Lattice.eqi]; grind) | grind | fail) ?_ ?_
        · intro c_10 p_10 h
          try simp -implicitDefEqProofs [c_10]
          repeat (with_reducible refine And.intro (by omega) ?_)
          first | with_reducible refine selP_ite h (by first | exact Iff.rfl | omega | (simp; done) | (simp [Pin.eqi, Edge.eqi, Lattice.eqi]; done) | fail) ?_ ?_ | with_reducible refine selP_ite2 h (by first | exact Iff.rfl | omega | (simp; done) | (simp [Pin.eqi, Edge.eqi, Lattice.eqi]; done) | fail) ?_ ?_ | with_reducible refine selP_ite h (by first | (simp only [Pin.eqi, Edge.eqi, Lattice.eqi]; grind) | grind | fail) ?_ ?_ | with_reducible refine selP_ite2 h (by first | (simp only [Pin.eqi, Edge.eqi, Lattice.eqi]; grind) | grind | fail) ?_ ?_
          · intro c_11 p_11 h
            obtain ⟨w69_12, hc, h⟩ := bind_elim h
            try simp -implicitDefEqProofs [c_11]
            repeat (with_reducible refine And.intro (by omega) ?_)
            refine runC_t (link_ref18_SameEdges hc) (by simp) ?_
            try simp -implicitDefEqProofs
            repeat (with_reducible refine And.intro (by omega) ?_)
            refine go_l ?_
            obtain rfl := Option.some.inj h
            exact hJ _ (wkN_of 0 [] (by simp [c_7, c_10, c_11]) (by simp [c_7, c_10, c_11]) (by simp) (by simp) (by simp))
          · intro c_11 p_11 h
            try simp -implicitDefEqProofs [c_11]
            repeat (with_reducible refine And.intro (by omega) ?_)
            refine go_l ?_
            obtain rfl := Option.some.inj h
            exact hJ _ (wkN_of 0 [] (by simp [c_7, c_10]) (by simp [c_7, c_10]) (by simp) (by simp) (by simp))
        · intro c_10 p_10 h
          try simp -implicitDefEqProofs [c_10]
          repeat (with_reducible refine And.intro (by omega) ?_)
          refine go_l ?_
          obtain rfl := Option.some.inj h
          exact hJ _ (wkN_of 0 [] (by simp [c_7]) (by simp [c_7]) (by simp) (by simp) (by simp))
      · intro c_9 p_9 h
        have q_9 := eq_false_of_ne_true c_9
        try simp -implicitDefEqProofs [q_9]
        repeat (with_reducible refine And.intro (by omega) ?_)
        refine go_l ?_
        obtain rfl := Option.some.inj h
        exact hJ _ (wkN_of 0 [] (by simp [c_7]) (by simp [c_7]) (by simp) (by simp) (by simp))
    · intro c_7 p_7 h
      try simp -implicitDefEqProofs [c_7]
      repeat (with_reducible refine And.intro (by omega) ?_)
      refine go_l ?_
      obtain rfl := Option.some.inj h
      exact hJ _ (wkN_of 0 [] (by simp) (by simp) (by simp) (by simp) (by simp))
end Go.Proofs.Ytdkancgcefklfaa
