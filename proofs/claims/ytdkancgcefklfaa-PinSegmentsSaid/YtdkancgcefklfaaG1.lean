/-
  Typed functions that compute what the functions 25, 39, 44, 23, 22, 13, 10, 14, 24, 15, 17, 19, 21, 11, 26, 27, 28, 31, 38, 34, 30, 33, 37, 41, 42, 47, 36, 32, 16 of the program compute, and that they do.
-/
import Derived.Test.YtdkancgcefklfaaPL
import Derived.Test.YtdkancgcefklfaaK
namespace Go.Proofs.Ytdkancgcefklfaa
open Go.RowKit
structure Pin where
  From : Int
  To : Int
  Word : Int
  deriving DecidableEq, Inhabited
theorem Pin.eqi (a b : Pin) : a = b ↔ a.From = b.From ∧ a.To = b.To ∧ a.Word = b.Word := by
  cases a; cases b; simp
def cPin (x : Pin) : List PV := [.v (.int .i64 x.From), .v (.int .i64 x.To), .v (.int .i64 x.Word)]
@[simp] theorem cPin_eq (x : Pin) : cPin x = [.v (.int .i64 x.From), .v (.int .i64 x.To), .v (.int .i64 x.Word)] := rfl
instance : CSz cPin 3 := ⟨fun _ => rfl⟩
instance : CSh cPin := ⟨fun _ => rfl, fun _ _ _ _ => by simp [wkL], fun _ p h => by simp at h; rcases h with rfl | rfl | rfl <;> rfl⟩
structure Edge where
  From : Int
  To : Int
  Word : Int
  Cost : Int
  deriving DecidableEq, Inhabited
theorem Edge.eqi (a b : Edge) : a = b ↔ a.From = b.From ∧ a.To = b.To ∧ a.Word = b.Word ∧ a.Cost = b.Cost := by
  cases a; cases b; simp
def cEdge (x : Edge) : List PV := [.v (.int .i64 x.From), .v (.int .i64 x.To), .v (.int .i64 x.Word), .v (.int .i64 x.Cost)]
@[simp] theorem cEdge_eq (x : Edge) : cEdge x = [.v (.int .i64 x.From), .v (.int .i64 x.To), .v (.int .i64 x.Word), .v (.int .i64 x.Cost)] := rfl
instance : CSz cEdge 4 := ⟨fun _ => rfl⟩
instance : CSh cEdge := ⟨fun _ => rfl, fun _ _ _ _ => by simp [wkL], fun _ p h => by simp at h; rcases h with rfl | rfl | rfl | rfl <;> rfl⟩
structure Arr3U8 where
  x0 : UInt8
  x1 : UInt8
  x2 : UInt8
  deriving DecidableEq, Inhabited
theorem Arr3U8.eqi (a b : Arr3U8) : a = b ↔ a.x0 = b.x0 ∧ a.x1 = b.x1 ∧ a.x2 = b.x2 := by
  cases a; cases b; simp
def cArr3U8 (x : Arr3U8) : List PV := [.v (.int .u8 (x.x0.toNat : Int)), .v (.int .u8 (x.x1.toNat : Int)), .v (.int .u8 (x.x2.toNat : Int))]
@[simp] theorem cArr3U8_eq (x : Arr3U8) : cArr3U8 x = [.v (.int .u8 (x.x0.toNat : Int)), .v (.int .u8 (x.x1.toNat : Int)), .v (.int .u8 (x.x2.toNat : Int))] := rfl
instance : CSz cArr3U8 3 := ⟨fun _ => rfl⟩
instance : CSh cArr3U8 := ⟨fun _ => rfl, fun _ _ _ _ => by simp [wkL], fun _ p h => by simp at h; rcases h with rfl | rfl | rfl <;> rfl⟩
structure Lattice where
  N : Int
  Edges : List Edge
  deriving DecidableEq, Inhabited
theorem Lattice.eqi (a b : Lattice) : a = b ↔ a.N = b.N ∧ a.Edges = b.Edges := by
  cases a; cases b; simp
def cLattice (o : Own) (x : Lattice) : List PV := [.v (.int .i64 x.N), .sl 4 (mp cEdge x.Edges) o]
@[simp] theorem cLattice_eq (o : Own) (x : Lattice) : cLattice o x = [.v (.int .i64 x.N), .sl 4 (mp cEdge x.Edges) o] := rfl
instance : CSz (cLattice .none) 2 := ⟨fun _ => rfl⟩
instance : CSh (cLattice .none) := ⟨fun _ => rfl, fun _ _ _ _ => by simp [wkL], fun _ p h => by simp at h; rcases h with rfl | rfl <;> rfl⟩
def cLEdge (x : List Edge) : List PV := [.sl 4 (mp cEdge x) .none]
@[simp] theorem cLEdge_eq (x : List Edge) : cLEdge x = [.sl 4 (mp cEdge x) .none] := rfl
def ref18_Overlap (x0 : Pin) (x1 : Pin) : Option Bool :=
  (
    (
      if x0.From < x1.To then (
        some (decide (x1.From < x0.To))
      ) else (
        some false
      )
    : Option (Bool))
  ).bind fun v4_1 =>
  some v4_1
theorem link_ref18_Overlap {x0 : Pin} {x1 : Pin} {r : Bool} (h : ref18_Overlap x0 x1 = some r) : PCalls Try.prog 25 [.agg (cPin x0), .agg (cPin x1)] (.v (.bool r)) := by
  unfold ref18_Overlap at h
  refine pcalls is25 na25 ?_
  try simp -implicitDefEqProofs
  refine go_seq ?_
  refine go_reg ?_
  try simp -implicitDefEqProofs
  repeat (with_reducible refine And.intro (by omega) ?_)
  refine go_seq ?_
  refine go_reg ?_
  refine run_join h [⟨.a, .a, .e⟩, ⟨.a, .a, .f⟩, ⟨.a, .a, .g⟩, ⟨.a, .a, .h⟩, ⟨.a, .b, .a⟩, ⟨.a, .b, .b⟩, ⟨.a, .b, .c⟩, ⟨.a, .b, .d⟩, ⟨.a, .b, .e⟩, ⟨.a, .b, .f⟩, ⟨.a, .b, .g⟩, ⟨.a, .b, .h⟩, ⟨.a, .c, .a⟩] (fun v4_1 => [(⟨.a, .a, .e⟩, .v (.bool v4_1))]) (fun v4_1 => [[.v (.int .i64 x0.From), .v (.int .i64 x0.To), .v (.int .i64 x0.Word)], [.v (.int .i64 x1.From), .v (.int .i64 x1.To), .v (.int .i64 x1.Word)]]) (fun v4_1 => []) (by repeat (first | exact soft_c | refine soft_b ?_)) ?_ ?_
  · rintro v4_1 h
    try dsimp only at h
    try simp -implicitDefEqProofs
    obtain rfl := Option.some.inj h
    refine go_ret ?_
    simp -implicitDefEqProofs
  · intro v E h hJ
    try simp -implicitDefEqProofs
    repeat (with_reducible refine And.intro (by omega) ?_)
    first | with_reducible refine selP_ite h (by first | exact Iff.rfl | omega | (simp; done) | (simp [Pin.eqi, Edge.eqi, Arr3U8.eqi, Lattice.eqi]; done) | fail) ?_ ?_ | with_reducible refine selP_ite2 h (by first | exact Iff.rfl | omega | (simp; done) | (simp [Pin.eqi, Edge.eqi, Arr3U8.eqi, Lattice.eqi]; done) | fail) ?_ ?_ | with_reducible refine selP_ite h (by first | (simp only [Pin.eqi, Edge.eqi, Arr3U8.eqi, Lattice.eqi]; grind) | grind | fail) ?_ ?_ | with_reducible refine selP_ite2 h (by first | (simp only [Pin.eqi, Edge.eqi, Arr3U8.eqi, Lattice.eqi]; grind) | grind | fail) ?_ ?_
    · intro c_3 p_3 h
      try simp -implicitDefEqProofs [c_3]
      repeat (with_reducible refine And.intro (by omega) ?_)
      refine go_l ?_
      obtain rfl := Option.some.inj h
      exact hJ _ (wkN_of 0 [] (by simp) (by simp) (by simp) (by simp) (by simp))
    · intro c_3 p_3 h
      try simp -implicitDefEqProofs [c_3]
      repeat (with_reducible refine And.intro (by omega) ?_)
      refine go_l ?_
      obtain rfl := Option.some.inj h
      exact hJ _ (wkN_of 0 [] (by simp) (by simp) (by simp) (by simp) (by simp))
def ref18_Against (x0 : Edge) (x1 : Pin) : Option Bool :=
  (
    (
      if x0.From = x1.From then (
        some (decide (x0.To = x1.To))
      ) else (
        some false
      )
    : Option (Bool))
  ).bind fun v16_1 =>
  if v16_1 = true then (
    (
      (
        if x1.Word = (-1) then (
          some false
        ) else (
          some (!decide (x1.Word = x0.Word))
        )
      : Option (Bool))
    ).bind fun v4_5 =>
    some v4_5
  ) else (
    (
      (
        if x0.From < x1.To then (
          some (decide (x1.From < x0.To))
        ) else (
          some false
        )
      : Option (Bool))
    ).bind fun v4_8 =>
    some v4_8
  )
theorem link_ref18_Against {x0 : Edge} {x1 : Pin} {r : Bool} (h : ref18_Against x0 x1 = some r) : PCalls Try.prog 39 [.agg (cEdge x0), .agg (cPin x1)] (.v (.bool r)) := by
  unfold ref18_Against at h
  refine pcalls is39 na39 ?_
  try simp -implicitDefEqProofs
  refine go_seq ?_
  refine go_reg ?_
  try simp -implicitDefEqProofs
  repeat (with_reducible refine And.intro (by omega) ?_)
  refine go_seq ?_
  refine go_seq ?_
  refine go_reg ?_
  refine run_join h [⟨.a, .a, .f⟩, ⟨.a, .a, .g⟩, ⟨.a, .a, .h⟩, ⟨.a, .b, .a⟩, ⟨.a, .b, .b⟩, ⟨.a, .b, .c⟩, ⟨.a, .b, .d⟩, ⟨.a, .b, .e⟩, ⟨.a, .b, .f⟩, ⟨.a, .b, .g⟩, ⟨.a, .b, .h⟩, ⟨.a, .c, .a⟩] (fun v16_1 => [(⟨.a, .c, .a⟩, .v (.bool v16_1))]) (fun v16_1 => [[.v (.int .i64 x0.From), .v (.int .i64 x0.To), .v (.int .i64 x0.Word), .v (.int .i64 x0.Cost)], [.v (.int .i64 x1.From), .v (.int .i64 x1.To), .v (.int .i64 x1.Word)]]) (fun v16_1 => []) (by repeat (first | exact soft_c | refine soft_b ?_)) ?_ ?_
  · rintro v16_1 h
    try dsimp only at h
    try simp -implicitDefEqProofs
    refine go_cond ?_
    try simp -implicitDefEqProofs
    repeat (with_reducible refine And.intro (by omega) ?_)
    first | with_reducible refine selP_ite h (by first | exact Iff.rfl | omega | (simp; done) | (simp [Pin.eqi, Edge.eqi, Arr3U8.eqi, Lattice.eqi]; done) | fail) ?_ ?_ | with_reducible refine selP_ite2 h (by first | exact Iff.rfl | omega | (simp; done) | (simp [Pin.eqi, Edge.eqi, Arr3U8.eqi, Lattice.eqi]; done) | fail) ?_ ?_ | with_reducible refine selP_ite h (by first | (simp only [Pin.eqi, Edge.eqi, Arr3U8.eqi, Lattice.eqi]; grind) | grind | fail) ?_ ?_ | with_reducible refine selP_ite2 h (by first | (simp only [Pin.eqi, Edge.eqi, Arr3U8.eqi, Lattice.eqi]; grind) | grind | fail) ?_ ?_
    · intro c_4 p_4 h
      refine go_seq ?_
      refine go_reg ?_
      refine run_join h [⟨.a, .a, .e⟩, ⟨.a, .c, .b⟩, ⟨.a, .c, .c⟩, ⟨.a, .c, .d⟩, ⟨.a, .c, .e⟩, ⟨.a, .c, .f⟩, ⟨.a, .c, .g⟩, ⟨.a, .c, .h⟩, ⟨.a, .d, .a⟩, ⟨.a, .d, .b⟩, ⟨.a, .d, .c⟩] (fun v4_5 => [(⟨.a, .a, .e⟩, .v (.bool v4_5))]) (fun v4_5 => [[.v (.int .i64 x0.From), .v (.int .i64 x0.To), .v (.int .i64 x0.Word), .v (.int .i64 x0.Cost)], [.v (.int .i64 x1.From), .v (.int .i64 x1.To), .v (.int .i64 x1.Word)]]) (fun v4_5 => []) (by repeat (first | exact soft_c | refine soft_b ?_)) ?_ ?_
      · rintro v4_5 h
        try dsimp only at h
        try simp -implicitDefEqProofs
        obtain rfl := Option.some.inj h
        refine go_ret ?_
        simp -implicitDefEqProofs [c_4]
      · intro v E h hJ
        try simp -implicitDefEqProofs [c_4]
        repeat (with_reducible refine And.intro (by omega) ?_)
        first | with_reducible refine selP_ite h (by first | exact Iff.rfl | omega | (simp; done) | (simp [Pin.eqi, Edge.eqi, Arr3U8.eqi, Lattice.eqi]; done) | fail) ?_ ?_ | with_reducible refine selP_ite2 h (by first | exact Iff.rfl | omega | (simp; done) | (simp [Pin.eqi, Edge.eqi, Arr3U8.eqi, Lattice.eqi]; done) | fail) ?_ ?_ | with_reducible refine selP_ite h (by first | (simp only [Pin.eqi, Edge.eqi, Arr3U8.eqi, Lattice.eqi]; grind) | grind | fail) ?_ ?_ | with_reducible refine selP_ite2 h (by first | (simp only [Pin.eqi, Edge.eqi, Arr3U8.eqi, Lattice.eqi]; grind) | grind | fail) ?_ ?_
        · intro c_7 p_7 h
          try simp -implicitDefEqProofs [c_7]
          repeat (with_reducible refine And.intro (by omega) ?_)
          refine go_l ?_
          obtain rfl := Option.some.inj h
          exact hJ _ (wkN_of 0 [] (by simp [c_4, c_7]) (by simp [c_4, c_7]) (by simp) (by simp) (by simp))
        · intro c_7 p_7 h
          try simp -implicitDefEqProofs [c_7]
          repeat (with_reducible refine And.intro (by omega) ?_)
          refine go_l ?_
          obtain rfl := Option.some.inj h
          exact hJ _ (wkN_of 0 [] (by simp [c_4]) (by simp [c_4]) (by simp) (by simp) (by simp))
    · intro c_4 p_4 h
      have q_4 := eq_false_of_ne_true c_4
      refine go_skip ?_
      refine go_seq ?_
      refine go_reg ?_
      refine run_join h [⟨.a, .a, .e⟩, ⟨.a, .d, .d⟩, ⟨.a, .d, .e⟩, ⟨.a, .d, .f⟩, ⟨.a, .d, .g⟩, ⟨.a, .d, .h⟩, ⟨.a, .e, .a⟩, ⟨.a, .e, .b⟩, ⟨.a, .e, .c⟩, ⟨.a, .e, .d⟩, ⟨.a, .e, .e⟩, ⟨.a, .e, .f⟩, ⟨.a, .e, .g⟩] (fun v4_8 => [(⟨.a, .a, .e⟩, .v (.bool v4_8))]) (fun v4_8 => [[.v (.int .i64 x0.From), .v (.int .i64 x0.To), .v (.int .i64 x0.Word), .v (.int .i64 x0.Cost)], [.v (.int .i64 x1.From), .v (.int .i64 x1.To), .v (.int .i64 x1.Word)]]) (fun v4_8 => []) (by repeat (first | exact soft_c | refine soft_b ?_)) ?_ ?_
      · rintro v4_8 h
        try dsimp only at h
        try simp -implicitDefEqProofs
        obtain rfl := Option.some.inj h
        refine go_ret ?_
        simp -implicitDefEqProofs [q_4]
      · intro v E h hJ
        try simp -implicitDefEqProofs [q_4]
        repeat (with_reducible refine And.intro (by omega) ?_)
        first | with_reducible refine selP_ite h (by first | exact Iff.rfl | omega | (simp; done) | (simp [Pin.eqi, Edge.eqi, Arr3U8.eqi, Lattice.eqi]; done) | fail) ?_ ?_ | with_reducible refine selP_ite2 h (by first | exact Iff.rfl | omega | (simp; done) | (simp [Pin.eqi, Edge.eqi, Arr3U8.eqi, Lattice.eqi]; done) | fail) ?_ ?_ | with_reducible refine selP_ite h (by first | (simp only [Pin.eqi, Edge.eqi, Arr3U8.eqi, Lattice.eqi]; grind) | grind | fail) ?_ ?_ | with_reducible refine selP_ite2 h (by first | (simp only [Pin.eqi, Edge.eqi, Arr3U8.eqi, Lattice.eqi]; grind) | grind | fail) ?_ ?_
        · intro c_10 p_10 h
          try simp -implicitDefEqProofs [c_10]
          repeat (with_reducible refine And.intro (by omega) ?_)
          refine go_l ?_
          obtain rfl := Option.some.inj h
          exact hJ _ (wkN_of 0 [] (by simp [c_4]) (by simp [c_4]) (by simp) (by simp) (by simp))
        · intro c_10 p_10 h
          try simp -implicitDefEqProofs [c_10]
          repeat (with_reducible refine And.intro (by omega) ?_)
          refine go_l ?_
          obtain rfl := Option.some.inj h
          exact hJ _ (wkN_of 0 [] (by simp [c_4]) (by simp [c_4]) (by simp) (by simp) (by simp))
  · intro v E h hJ
    try simp -implicitDefEqProofs
    repeat (with_reducible refine And.intro (by omega) ?_)
    first | with_reducible refine selP_ite h (by first | exact Iff.rfl | omega | (simp; done) | (simp [Pin.eqi, Edge.eqi, Arr3U8.eqi, Lattice.eqi]; done) | fail) ?_ ?_ | with_reducible refine selP_ite2 h (by first | exact Iff.rfl | omega | (simp; done) | (simp [Pin.eqi, Edge.eqi, Arr3U8.eqi, Lattice.eqi]; done) | fail) ?_ ?_ | with_reducible refine selP_ite h (by first | (simp only [Pin.eqi, Edge.eqi, Arr3U8.eqi, Lattice.eqi]; grind) | grind | fail) ?_ ?_ | with_reducible refine selP_ite2 h (by first | (simp only [Pin.eqi, Edge.eqi, Arr3U8.eqi, Lattice.eqi]; grind) | grind | fail) ?_ ?_
    · intro c_3 p_3 h
      try simp -implicitDefEqProofs [c_3]
      repeat (with_reducible refine And.intro (by omega) ?_)
      refine go_l ?_
      obtain rfl := Option.some.inj h
      exact hJ _ (wkN_of 0 [] (by simp [c_3]) (by simp [c_3]) (by simp) (by simp) (by simp))
    · intro c_3 p_3 h
      try simp -implicitDefEqProofs [c_3]
      repeat (with_reducible refine And.intro (by omega) ?_)
      refine go_l ?_
      obtain rfl := Option.some.inj h
      exact hJ _ (wkN_of 0 [] (by simp) (by simp) (by simp) (by simp) (by simp))
def cmp_isNaN (x0 : Int) : Option Bool :=
  some (!decide (x0 = x0))
theorem link_cmp_isNaN {x0 : Int} {r : Bool} (h : cmp_isNaN x0 = some r) : PCalls Try.prog 44 [.v (.int .i64 x0)] (.v (.bool r)) := by
  unfold cmp_isNaN at h
  refine pcalls is44 na44 ?_
  try simp -implicitDefEqProofs
  refine go_seq ?_
  refine go_reg ?_
  try simp -implicitDefEqProofs
  repeat (with_reducible refine And.intro (by omega) ?_)
  refine go_seq ?_
  refine go_reg ?_
  try simp -implicitDefEqProofs
  repeat (with_reducible refine And.intro (by omega) ?_)
  obtain rfl := Option.some.inj h
  refine go_ret ?_
  simp -implicitDefEqProofs
def ref18_Valid_L1 (x0 : List Pin) (x1 : Int) : Int → Option (Int ⊕ (Bool ⊕ Unit)) := fun v5__6 =>
  if v5__6 < (x0.length : Int) then (
    (
      (
        chk (0 ≤ v5__6 ∧ v5__6 < (x0.length : Int)) <|
        if (at' x0 v5__6).From < 0 then (
          some true
        ) else (
          if (at' x0 v5__6).To ≤ (at' x0 v5__6).From then (
            some true
          ) else (
            if x1 < (at' x0 v5__6).To then (
              some true
            ) else (
              if (at' x0 v5__6).Word < (-1) then (
                some true
              ) else (
                if 200 ≤ (at' x0 v5__6).Word then (
                  some true
                ) else (
                  if 0 < v5__6 then (
                    chk (-9223372036854775808 ≤ v5__6 - 1 ∧ v5__6 - 1 ≤ 9223372036854775807) <|
                    chk (0 ≤ v5__6 - 1 ∧ v5__6 - 1 < (x0.length : Int)) <|
                    some (decide ((at' x0 v5__6).From < (at' x0 (v5__6 - 1)).To))
                  ) else (
                    some false
                  )
                )
              )
            )
          )
        )
      : Option (Bool))
    ).bind fun v79_8 =>
    if v79_8 = true then (
      some (.inr (.inl false))
    ) else (
      chk (-9223372036854775808 ≤ v5__6 + 1 ∧ v5__6 + 1 ≤ 9223372036854775807) <|
      some (.inl (v5__6 + 1))
    )
  ) else (
    some (.inr (.inr ()))
  )
def ref18_Valid (x0 : List Pin) (x1 : Int) : Option Bool :=
  (
    (
      if x1 < 0 then (
        some true
      ) else (
        some (decide (40 < x1))
      )
    : Option (Bool))
  ).bind fun v11_1 =>
  if v11_1 = true then (
    some false
  ) else (
    (loop (ref18_Valid_L1 x0 x1) 0).bind fun
    | .inl e => some e
    | .inr _ =>
    some true
  )
theorem link_ref18_Valid {x0 : List Pin} {x1 : Int} {r : Bool} (h : ref18_Valid x0 x1 = some r) : PCalls Try.prog 23 [.sl 3 (mp cPin x0) .lent, .v (.int .i64 x1)] (.v (.bool r)) := by
  unfold ref18_Valid at h
  refine pcalls is23 na23 ?_
  try simp -implicitDefEqProofs
  refine go_seq ?_
  refine go_reg ?_
  try simp -implicitDefEqProofs
  repeat (with_reducible refine And.intro (by omega) ?_)
  refine go_seq ?_
  refine go_seq ?_
  refine go_reg ?_
  refine run_join h [⟨.a, .a, .g⟩, ⟨.a, .a, .h⟩, ⟨.a, .b, .a⟩, ⟨.a, .b, .b⟩, ⟨.a, .b, .c⟩, ⟨.a, .b, .d⟩] (fun v11_1 => [(⟨.a, .b, .d⟩, .v (.bool v11_1))]) (fun v11_1 => []) (fun v11_1 => []) (by repeat (first | exact soft_c | refine soft_b ?_)) ?_ ?_
  · rintro v11_1 h
    try dsimp only at h
    try simp -implicitDefEqProofs
    refine go_cond ?_
    try simp -implicitDefEqProofs
    repeat (with_reducible refine And.intro (by omega) ?_)
    first | with_reducible refine selP_ite h (by first | exact Iff.rfl | omega | (simp; done) | (simp [Pin.eqi, Edge.eqi, Arr3U8.eqi, Lattice.eqi]; done) | fail) ?_ ?_ | with_reducible refine selP_ite2 h (by first | exact Iff.rfl | omega | (simp; done) | (simp [Pin.eqi, Edge.eqi, Arr3U8.eqi, Lattice.eqi]; done) | fail) ?_ ?_ | with_reducible refine selP_ite h (by first | (simp only [Pin.eqi, Edge.eqi, Arr3U8.eqi, Lattice.eqi]; grind) | grind | fail) ?_ ?_ | with_reducible refine selP_ite2 h (by first | (simp only [Pin.eqi, Edge.eqi, Arr3U8.eqi, Lattice.eqi]; grind) | grind | fail) ?_ ?_
    · intro c_4 p_4 h
      refine go_seq ?_
      refine go_reg ?_
      try simp -implicitDefEqProofs [c_4]
      repeat (with_reducible refine And.intro (by omega) ?_)
      obtain rfl := Option.some.inj h
      refine go_ret ?_
      simp -implicitDefEqProofs
    · intro c_4 p_4 h
      have q_4 := eq_false_of_ne_true c_4
      refine go_skip ?_
      refine go_seq ?_
      refine go_seq ?_
      refine go_reg ?_
      try simp -implicitDefEqProofs [q_4]
      repeat (with_reducible refine And.intro (by omega) ?_)
      refine go_block ?_
      obtain ⟨rr_31, h, hn_5⟩ := bind_elim h
      refine go_loop (ε := Unit) h 0 (fun e => .inr e) (fun v5__6 => [(⟨.a, .a, .f⟩, .v (.int .i64 v5__6))]) (fun v5__6 => []) (fun v5__6 => []) (fun _ => []) (fun _ => []) (fun _ => []) (wkN_of 0 [] (by simp) (by simp) (by simp) (by simp) (by simp)) ?_ ?_
      · rintro ⟨⟩ hq
        try simp -implicitDefEqProofs
        have h := hn_5
        rw [hq] at h
        try dsimp only at h
        refine go_seq ?_
        refine go_reg ?_
        try simp -implicitDefEqProofs
        repeat (with_reducible refine And.intro (by omega) ?_)
        obtain rfl := Option.some.inj h
        refine go_ret ?_
        simp -implicitDefEqProofs
      · rintro v5__6 o B' E' h hB hE hR
        simp only [ref18_Valid_L1] at h
        simp -implicitDefEqProofs
        refine go_seq ?_
        refine go_seq ?_
        refine go_reg ?_
        try simp -implicitDefEqProofs
        repeat (with_reducible refine And.intro (by omega) ?_)
        refine go_cond ?_
        try simp -implicitDefEqProofs
        repeat (with_reducible refine And.intro (by omega) ?_)
        first | with_reducible refine selP_ite h (by first | exact Iff.rfl | omega | (simp; done) | (simp [Pin.eqi, Edge.eqi, Arr3U8.eqi, Lattice.eqi]; done) | fail) ?_ ?_ | with_reducible refine selP_ite2 h (by first | exact Iff.rfl | omega | (simp; done) | (simp [Pin.eqi, Edge.eqi, Arr3U8.eqi, Lattice.eqi]; done) | fail) ?_ ?_ | with_reducible refine selP_ite h (by first | (simp only [Pin.eqi, Edge.eqi, Arr3U8.eqi, Lattice.eqi]; grind) | grind | fail) ?_ ?_ | with_reducible refine selP_ite2 h (by first | (simp only [Pin.eqi, Edge.eqi, Arr3U8.eqi, Lattice.eqi]; grind) | grind | fail) ?_ ?_
        · intro c_7 p_7 h
          refine go_skip ?_
          refine go_seq ?_
          refine go_block ?_
          refine go_seq ?_
          refine go_reg ?_
          refine run_join h [⟨.a, .c, .c⟩, ⟨.a, .c, .d⟩, ⟨.a, .c, .e⟩, ⟨.a, .c, .f⟩, ⟨.a, .c, .g⟩, ⟨.a, .c, .h⟩, ⟨.a, .d, .a⟩, ⟨.a, .d, .b⟩, ⟨.a, .d, .c⟩, ⟨.a, .d, .d⟩, ⟨.a, .d, .e⟩, ⟨.a, .d, .f⟩, ⟨.a, .d, .g⟩, ⟨.a, .d, .h⟩, ⟨.a, .e, .a⟩, ⟨.a, .e, .b⟩, ⟨.a, .e, .c⟩, ⟨.a, .e, .d⟩, ⟨.a, .e, .e⟩, ⟨.a, .e, .f⟩, ⟨.a, .e, .g⟩, ⟨.a, .e, .h⟩, ⟨.a, .f, .a⟩, ⟨.a, .f, .b⟩, ⟨.a, .f, .c⟩, ⟨.a, .f, .d⟩, ⟨.a, .f, .e⟩, ⟨.a, .f, .f⟩, ⟨.a, .f, .g⟩, ⟨.a, .f, .h⟩, ⟨.a, .g, .a⟩, ⟨.a, .g, .b⟩, ⟨.a, .g, .c⟩, ⟨.a, .g, .d⟩, ⟨.a, .g, .e⟩, ⟨.a, .g, .f⟩, ⟨.a, .g, .g⟩, ⟨.a, .g, .h⟩, ⟨.a, .h, .a⟩, ⟨.a, .h, .b⟩, ⟨.a, .h, .c⟩, ⟨.a, .h, .d⟩, ⟨.a, .h, .e⟩, ⟨.a, .h, .f⟩, ⟨.a, .h, .g⟩, ⟨.a, .h, .h⟩, ⟨.b, .a, .a⟩, ⟨.b, .a, .b⟩, ⟨.b, .a, .c⟩, ⟨.b, .a, .d⟩, ⟨.b, .a, .e⟩, ⟨.b, .a, .f⟩, ⟨.b, .a, .g⟩, ⟨.b, .a, .h⟩, ⟨.b, .b, .a⟩, ⟨.b, .b, .b⟩, ⟨.b, .b, .c⟩, ⟨.b, .b, .d⟩, ⟨.b, .b, .e⟩, ⟨.b, .b, .f⟩, ⟨.b, .b, .g⟩, ⟨.b, .b, .h⟩] (fun v79_8 => [(⟨.b, .b, .h⟩, .v (.bool v79_8))]) (fun v79_8 => []) (fun v79_8 => []) (by repeat (first | exact soft_c | refine soft_b ?_)) ?_ ?_
          · rintro v79_8 h
            try dsimp only at h
            try simp -implicitDefEqProofs
            refine go_cond ?_
            try simp -implicitDefEqProofs [c_7]
            repeat (with_reducible refine And.intro (by omega) ?_)
            first | with_reducible refine selP_ite h (by first | exact Iff.rfl | omega | (simp; done) | (simp [Pin.eqi, Edge.eqi, Arr3U8.eqi, Lattice.eqi]; done) | fail) ?_ ?_ | with_reducible refine selP_ite2 h (by first | exact Iff.rfl | omega | (simp; done) | (simp [Pin.eqi, Edge.eqi, Arr3U8.eqi, Lattice.eqi]; done) | fail) ?_ ?_ | with_reducible refine selP_ite h (by first | (simp only [Pin.eqi, Edge.eqi, Arr3U8.eqi, Lattice.eqi]; grind) | grind | fail) ?_ ?_ | with_reducible refine selP_ite2 h (by first | (simp only [Pin.eqi, Edge.eqi, Arr3U8.eqi, Lattice.eqi]; grind) | grind | fail) ?_ ?_
            · intro c_27 p_27 h
              refine go_seq ?_
              refine go_reg ?_
              try simp -implicitDefEqProofs [c_7, c_27]
              repeat (with_reducible refine And.intro (by omega) ?_)
              obtain rfl := hR _ (Option.some.inj h).symm
              try dsimp only at hn_5
              have h := hn_5
              obtain rfl := Option.some.inj h
              refine go_ret ?_
              simp -implicitDefEqProofs
            · intro c_27 p_27 h
              have q_27 := eq_false_of_ne_true c_27
              refine go_skip ?_
              refine go_b ?_
              refine go_reg ?_
              obtain ⟨⟨c_29, c_30⟩, h⟩ := chk_elim h
              try simp -implicitDefEqProofs [c_7, q_27, c_29, c_30]
              repeat (with_reducible refine And.intro (by omega) ?_)
              refine go_l ?_
              exact hB _ _ (Option.some.inj h).symm (wkN_of 0 [] (by simp) (by simp) (by simp) (by simp) (by simp))
          · intro v E h hJ
            obtain ⟨⟨c_11, c_12⟩, h⟩ := chk_elim h
            have k_13 := toNat_lt c_11 c_12
            try simp -implicitDefEqProofs [c_7, c_11, k_13]
            repeat (with_reducible refine And.intro (by omega) ?_)
            first | with_reducible refine selP_ite h (by first | exact Iff.rfl | omega | (simp; done) | (simp [Pin.eqi, Edge.eqi, Arr3U8.eqi, Lattice.eqi]; done) | fail) ?_ ?_ | with_reducible refine selP_ite2 h (by first | exact Iff.rfl | omega | (simp; done) | (simp [Pin.eqi, Edge.eqi, Arr3U8.eqi, Lattice.eqi]; done) | fail) ?_ ?_ | with_reducible refine selP_ite h (by first | (simp only [Pin.eqi, Edge.eqi, Arr3U8.eqi, Lattice.eqi]; grind) | grind | fail) ?_ ?_ | with_reducible refine selP_ite2 h (by first | (simp only [Pin.eqi, Edge.eqi, Arr3U8.eqi, Lattice.eqi]; grind) | grind | fail) ?_ ?_
            · intro c_14 p_14 h
              try simp -implicitDefEqProofs [c_14]
              repeat (with_reducible refine And.intro (by omega) ?_)
              refine go_l ?_
              obtain rfl := Option.some.inj h
              exact hJ _ (wkN_of 0 [] (by simp [c_7]) (by simp [c_7]) (by simp) (by simp) (by simp))
            · intro c_14 p_14 h
              try simp -implicitDefEqProofs [c_7, c_11, k_13, c_14]
              repeat (with_reducible refine And.intro (by omega) ?_)
              first | with_reducible refine selP_ite h (by first | exact Iff.rfl | omega | (simp; done) | (simp [Pin.eqi, Edge.eqi, Arr3U8.eqi, Lattice.eqi]; done) | fail) ?_ ?_ | with_reducible refine selP_ite2 h (by first | exact Iff.rfl | omega | (simp; done) | (simp [Pin.eqi, Edge.eqi, Arr3U8.eqi, Lattice.eqi]; done) | fail) ?_ ?_ | with_reducible refine selP_ite h (by first | (simp only [Pin.eqi, Edge.eqi, Arr3U8.eqi, Lattice.eqi]; grind) | grind | fail) ?_ ?_ | with_reducible refine selP_ite2 h (by first | (simp only [Pin.eqi, Edge.eqi, Arr3U8.eqi, Lattice.eqi]; grind) | grind | fail) ?_ ?_
              · intro c_15 p_15 h
                try simp -implicitDefEqProofs [c_15]
                repeat (with_reducible refine And.intro (by omega) ?_)
                refine go_l ?_
                obtain rfl := Option.some.inj h
                exact hJ _ (wkN_of 0 [] (by simp [c_7]) (by simp [c_7]) (by simp) (by simp) (by simp))
              · intro c_15 p_15 h
                try simp -implicitDefEqProofs [c_7, c_11, k_13, c_15]
                repeat (with_reducible refine And.intro (by omega) ?_)
                first | with_reducible refine selP_ite h (by first | exact Iff.rfl | omega | (simp; done) | (simp [Pin.eqi, Edge.eqi, Arr3U8.eqi, Lattice.eqi]; done) | fail) ?_ ?_ | with_reducible refine selP_ite2 h (by first | exact Iff.rfl | omega | (simp; done) | (simp [Pin.eqi, Edge.eqi, Arr3U8.eqi, Lattice.eqi]; done) | fail) ?_ ?_ | with_reducible refine selP_ite h (by first | (simp only [Pin.eqi, Edge.eqi, Arr3U8.eqi, Lattice.eqi]; grind) | grind | fail) ?_ ?_ | with_reducible refine selP_ite2 h (by first | (simp only [Pin.eqi, Edge.eqi, Arr3U8.eqi, Lattice.eqi]; grind) | grind | fail) ?_ ?_
                · intro c_16 p_16 h
                  try simp -implicitDefEqProofs [c_16]
                  repeat (with_reducible refine And.intro (by omega) ?_)
                  refine go_l ?_
                  obtain rfl := Option.some.inj h
                  exact hJ _ (wkN_of 0 [] (by simp [c_7]) (by simp [c_7]) (by simp) (by simp) (by simp))
                · intro c_16 p_16 h
                  try simp -implicitDefEqProofs [c_7, c_11, k_13, c_16]
                  repeat (with_reducible refine And.intro (by omega) ?_)
                  first | with_reducible refine selP_ite h (by first | exact Iff.rfl | omega | (simp; done) | (simp [Pin.eqi, Edge.eqi, Arr3U8.eqi, Lattice.eqi]; done) | fail) ?_ ?_ | with_reducible refine selP_ite2 h (by first | exact Iff.rfl | omega | (simp; done) | (simp [Pin.eqi, Edge.eqi, Arr3U8.eqi, Lattice.eqi]; done) | fail) ?_ ?_ | with_reducible refine selP_ite h (by first | (simp only [Pin.eqi, Edge.eqi, Arr3U8.eqi, Lattice.eqi]; grind) | grind | fail) ?_ ?_ | with_reducible refine selP_ite2 h (by first | (simp only [Pin.eqi, Edge.eqi, Arr3U8.eqi, Lattice.eqi]; grind) | grind | fail) ?_ ?_
                  · intro c_17 p_17 h
                    try simp -implicitDefEqProofs [c_17]
                    repeat (with_reducible refine And.intro (by omega) ?_)
                    refine go_l ?_
                    obtain rfl := Option.some.inj h
                    exact hJ _ (wkN_of 0 [] (by simp [c_7]) (by simp [c_7]) (by simp) (by simp) (by simp))
                  · intro c_17 p_17 h
                    try simp -implicitDefEqProofs [c_7, c_11, k_13, c_17]
                    repeat (with_reducible refine And.intro (by omega) ?_)
                    first | with_reducible refine selP_ite h (by first | exact Iff.rfl | omega | (simp; done) | (simp [Pin.eqi, Edge.eqi, Arr3U8.eqi, Lattice.eqi]; done) | fail) ?_ ?_ | with_reducible refine selP_ite2 h (by first | exact Iff.rfl | omega | (simp; done) | (simp [Pin.eqi, Edge.eqi, Arr3U8.eqi, Lattice.eqi]; done) | fail) ?_ ?_ | with_reducible refine selP_ite h (by first | (simp only [Pin.eqi, Edge.eqi, Arr3U8.eqi, Lattice.eqi]; grind) | grind | fail) ?_ ?_ | with_reducible refine selP_ite2 h (by first | (simp only [Pin.eqi, Edge.eqi, Arr3U8.eqi, Lattice.eqi]; grind) | grind | fail) ?_ ?_
                    · intro c_18 p_18 h
                      try simp -implicitDefEqProofs [c_18]
                      repeat (with_reducible refine And.intro (by omega) ?_)
                      refine go_l ?_
                      obtain rfl := Option.some.inj h
                      exact hJ _ (wkN_of 0 [] (by simp [c_7]) (by simp [c_7]) (by simp) (by simp) (by simp))
                    · intro c_18 p_18 h
                      try simp -implicitDefEqProofs [c_18]
                      repeat (with_reducible refine And.intro (by omega) ?_)
                      first | with_reducible refine selP_ite h (by first | exact Iff.rfl | omega | (simp; done) | (simp [Pin.eqi, Edge.eqi, Arr3U8.eqi, Lattice.eqi]; done) | fail) ?_ ?_ | with_reducible refine selP_ite2 h (by first | exact Iff.rfl | omega | (simp; done) | (simp [Pin.eqi, Edge.eqi, Arr3U8.eqi, Lattice.eqi]; done) | fail) ?_ ?_ | with_reducible refine selP_ite h (by first | (simp only [Pin.eqi, Edge.eqi, Arr3U8.eqi, Lattice.eqi]; grind) | grind | fail) ?_ ?_ | with_reducible refine selP_ite2 h (by first | (simp only [Pin.eqi, Edge.eqi, Arr3U8.eqi, Lattice.eqi]; grind) | grind | fail) ?_ ?_
                      · intro c_19 p_19 h
                        obtain ⟨⟨c_21, c_22⟩, h⟩ := chk_elim h
                        obtain ⟨⟨c_24, c_25⟩, h⟩ := chk_elim h
                        have k_26 := toNat_lt c_24 c_25
                        try simp -implicitDefEqProofs [c_7, c_11, k_13, c_19, c_21, c_22, c_25, k_26]
                        repeat (with_reducible refine And.intro (by omega) ?_)
                        refine go_l ?_
                        obtain rfl := Option.some.inj h
                        exact hJ _ (wkN_of 0 [] (by simp [c_7]) (by simp [c_7]) (by simp) (by simp) (by simp))
                      · intro c_19 p_19 h
                        try simp -implicitDefEqProofs [c_19]
                        repeat (with_reducible refine And.intro (by omega) ?_)
                        refine go_l ?_
                        obtain rfl := Option.some.inj h
                        exact hJ _ (wkN_of 0 [] (by simp [c_7]) (by simp [c_7]) (by simp) (by simp) (by simp))
        · intro c_7 p_7 h
          refine go_exit ?_
          simp -implicitDefEqProofs
          exact hE _ _ (Option.some.inj h).symm (wkN_of 0 [] (by simp [c_7]) (by simp) (by simp) (by simp) (by simp))
  · intro v E h hJ
    try simp -implicitDefEqProofs
    repeat (with_reducible refine And.intro (by omega) ?_)
    first | with_reducible refine selP_ite h (by first | exact Iff.rfl | omega | (simp; done) | (simp [Pin.eqi, Edge.eqi, Arr3U8.eqi, Lattice.eqi]; done) | fail) ?_ ?_ | with_reducible refine selP_ite2 h (by first | exact Iff.rfl | omega | (simp; done) | (simp [Pin.eqi, Edge.eqi, Arr3U8.eqi, Lattice.eqi]; done) | fail) ?_ ?_ | with_reducible refine selP_ite h (by first | (simp only [Pin.eqi, Edge.eqi, Arr3U8.eqi, Lattice.eqi]; grind) | grind | fail) ?_ ?_ | with_reducible refine selP_ite2 h (by first | (simp only [Pin.eqi, Edge.eqi, Arr3U8.eqi, Lattice.eqi]; grind) | grind | fail) ?_ ?_
    · intro c_3 p_3 h
      try simp -implicitDefEqProofs [c_3]
      repeat (with_reducible refine And.intro (by omega) ?_)
      refine go_l ?_
      obtain rfl := Option.some.inj h
      exact hJ _ (wkN_of 0 [] (by simp) (by simp) (by simp) (by simp) (by simp))
    · intro c_3 p_3 h
      try simp -implicitDefEqProofs [c_3]
      repeat (with_reducible refine And.intro (by omega) ?_)
      refine go_l ?_
      obtain rfl := Option.some.inj h
      exact hJ _ (wkN_of 0 [] (by simp) (by simp) (by simp) (by simp) (by simp))
def ref18_Pin (x0 : Arr3U8) (x1 : Int) : Option Pin :=
  chk (x1 ≠ 0) <|
  chk (-9223372036854775808 ≤ (rem (x0.x0.toNat : Int) x1) + 1 ∧ (rem (x0.x0.toNat : Int) x1) + 1 ≤ 9223372036854775807) <|
  chk (-9223372036854775808 ≤ x1 - (rem (x0.x0.toNat : Int) x1) ∧ x1 - (rem (x0.x0.toNat : Int) x1) ≤ 9223372036854775807) <|
  chk (x1 - (rem (x0.x0.toNat : Int) x1) ≠ 0) <|
  chk (-9223372036854775808 ≤ ((rem (x0.x0.toNat : Int) x1) + 1) + (rem (x0.x1.toNat : Int) (x1 - (rem (x0.x0.toNat : Int) x1))) ∧ ((rem (x0.x0.toNat : Int) x1) + 1) + (rem (x0.x1.toNat : Int) (x1 - (rem (x0.x0.toNat : Int) x1))) ≤ 9223372036854775807) <|
  chk (-9223372036854775808 ≤ (rem (x0.x2.toNat : Int) 4) - 1 ∧ (rem (x0.x2.toNat : Int) 4) - 1 ≤ 9223372036854775807) <|
  some (⟨rem (x0.x0.toNat : Int) x1, ((rem (x0.x0.toNat : Int) x1) + 1) + (rem (x0.x1.toNat : Int) (x1 - (rem (x0.x0.toNat : Int) x1))), (rem (x0.x2.toNat : Int) 4) - 1⟩ : Pin)
theorem link_ref18_Pin {x0 : Arr3U8} {x1 : Int} {r : Pin} (h : ref18_Pin x0 x1 = some r) : PCalls Try.prog 22 [.agg (cArr3U8 x0), .v (.int .i64 x1)] (.agg (cPin r)) := by
  unfold ref18_Pin at h
  refine pcalls is22 na22 ?_
  try simp -implicitDefEqProofs
  refine go_seq ?_
  refine go_reg ?_
  try simp -implicitDefEqProofs
  repeat (with_reducible refine And.intro (by omega) ?_)
  refine go_seq ?_
  refine go_reg ?_
  obtain ⟨c_1, h⟩ := chk_elim h
  have k_2 := c_1
  try simp at k_2
  try simp -implicitDefEqProofs [c_1]
  repeat (with_reducible refine And.intro (by omega) ?_)
  refine go_seq ?_
  refine go_reg ?_
  obtain ⟨⟨c_4, c_5⟩, h⟩ := chk_elim h
  obtain ⟨⟨c_7, c_8⟩, h⟩ := chk_elim h
  obtain ⟨c_9, h⟩ := chk_elim h
  have k_10 := c_9
  try simp at k_10
  obtain ⟨⟨c_12, c_13⟩, h⟩ := chk_elim h
  obtain ⟨⟨c_15, c_16⟩, h⟩ := chk_elim h
  try simp -implicitDefEqProofs [c_4, c_5, c_7, c_8, c_9, c_12, c_13, c_15, c_16]
  repeat (with_reducible refine And.intro (by omega) ?_)
  obtain rfl := Option.some.inj h
  refine go_ret ?_
  simp -implicitDefEqProofs
def ref18_Put_L1 (x0 : List Pin) (x1 : Pin) : (List Pin × Bool × Int) → Option ((List Pin × Bool × Int) ⊕ ((List Pin × Bool))) := fun (v8__8, v9__9, v10__10) =>
  if v10__10 < (x0.length : Int) then (
    (
      (
        if v9__9 = true then (
          some false
        ) else (
          chk (0 ≤ v10__10 ∧ v10__10 < (x0.length : Int)) <|
          some (decide (x1.From ≤ (at' x0 v10__10).From))
        )
      : Option (Bool))
    ).bind fun v40_14 =>
    (
      (
        if v40_14 = true then (
          chk ((v8__8.length + ([x1] : List Pin).length) * 24 ≤ 140737488355328) <|
          some (v8__8 ++ [x1], true)
        ) else (
          some (v8__8, v9__9)
        )
      : Option (List Pin × Bool))
    ).bind fun (v8_21, v9_22) =>
    chk (0 ≤ v10__10 ∧ v10__10 < (x0.length : Int)) <|
    (ref18_Overlap (at' x0 v10__10) x1).bind fun w50_30 =>
    (
      (
        if w50_30 = true then (
          some v8_21
        ) else (
          chk ((v8_21.length + ([at' x0 v10__10] : List Pin).length) * 24 ≤ 140737488355328) <|
          some (v8_21 ++ [at' x0 v10__10])
        )
      : Option (List Pin))
    ).bind fun v8_31 =>
    chk (-9223372036854775808 ≤ v10__10 + 1 ∧ v10__10 + 1 ≤ 9223372036854775807) <|
    some (.inl (v8_31, v9_22, v10__10 + 1))
  ) else (
    some (.inr (v8__8, v9__9))
  )
def ref18_Put (x0 : List Pin) (x1 : Pin) (x2 : Int) : Option (List Pin × Int) :=
  (
    (
      (ref18_Valid x0 x2).bind fun w13_3 =>
      if w13_3 = true then (
        (ref18_Valid [x1] x2).bind fun w19_5 =>
        some (!w19_5)
      ) else (
        some true
      )
    : Option (Bool))
  ).bind fun v21_1 =>
  if v21_1 = true then (
    some ([], 180)
  ) else (
    (loop (ref18_Put_L1 x0 x1) ([], false, 0)).bind fun (v8_11, v9_12) =>
    (
      (
        if v9_12 = true then (
          some v8_11
        ) else (
          chk ((v8_11.length + ([x1] : List Pin).length) * 24 ≤ 140737488355328) <|
          some (v8_11 ++ [x1])
        )
      : Option (List Pin))
    ).bind fun v8_38 =>
    some (v8_38, 0)
  )
theorem link_ref18_Put {x0 : List Pin} {x1 : Pin} {x2 : Int} {r : List Pin × Int} (h : ref18_Put x0 x1 x2 = some r) : PCalls Try.prog 13 [.sl 3 (mp cPin x0) .lent, .agg (cPin x1), .v (.int .i64 x2)] (.tup [.sl 3 (mp cPin r.1) .none, .v (.int .i64 r.2)]) := by
  unfold ref18_Put at h
  refine pcalls is13 na13 ?_
  try simp -implicitDefEqProofs
  refine go_seq ?_
  refine go_reg ?_
  try simp -implicitDefEqProofs
  repeat (with_reducible refine And.intro (by omega) ?_)
  refine go_seq ?_
  refine go_seq ?_
  refine go_reg ?_
  refine run_join h [⟨.a, .b, .d⟩, ⟨.a, .b, .e⟩, ⟨.a, .b, .f⟩, ⟨.a, .b, .g⟩, ⟨.a, .b, .h⟩, ⟨.a, .c, .a⟩, ⟨.a, .c, .b⟩, ⟨.a, .c, .c⟩, ⟨.a, .c, .d⟩, ⟨.a, .c, .e⟩, ⟨.a, .c, .f⟩] (fun v21_1 => [(⟨.a, .c, .f⟩, .v (.bool v21_1))]) (fun v21_1 => [[.v (.int .i64 x1.From), .v (.int .i64 x1.To), .v (.int .i64 x1.Word)]]) (fun v21_1 => []) (by repeat (first | exact soft_c | refine soft_b ?_)) ?_ ?_
  · rintro v21_1 h
    try dsimp only at h
    try simp -implicitDefEqProofs
    refine go_cond ?_
    try simp -implicitDefEqProofs
    repeat (with_reducible refine And.intro (by omega) ?_)
    first | with_reducible refine selP_ite h (by first | exact Iff.rfl | omega | (simp; done) | (simp [Pin.eqi, Edge.eqi, Arr3U8.eqi, Lattice.eqi]; done) | fail) ?_ ?_ | with_reducible refine selP_ite2 h (by first | exact Iff.rfl | omega | (simp; done) | (simp [Pin.eqi, Edge.eqi, Arr3U8.eqi, Lattice.eqi]; done) | fail) ?_ ?_ | with_reducible refine selP_ite h (by first | (simp only [Pin.eqi, Edge.eqi, Arr3U8.eqi, Lattice.eqi]; grind) | grind | fail) ?_ ?_ | with_reducible refine selP_ite2 h (by first | (simp only [Pin.eqi, Edge.eqi, Arr3U8.eqi, Lattice.eqi]; grind) | grind | fail) ?_ ?_
    · intro c_6 p_6 h
      refine go_seq ?_
      refine go_reg ?_
      try simp -implicitDefEqProofs [c_6]
      repeat (with_reducible refine And.intro (by omega) ?_)
      obtain rfl := Option.some.inj h
      refine go_ret ?_
      simp -implicitDefEqProofs
    · intro c_6 p_6 h
      have q_6 := eq_false_of_ne_true c_6
      refine go_skip ?_
      refine go_seq ?_
      refine go_reg ?_
      try simp -implicitDefEqProofs [q_6]
      repeat (with_reducible refine And.intro (by omega) ?_)
      refine go_seq ?_
      refine go_seq ?_
      refine go_reg ?_
      try simp -implicitDefEqProofs
      repeat (with_reducible refine And.intro (by omega) ?_)
      refine go_block ?_
      obtain ⟨rr_42, h, hn_7⟩ := bind_elim h
      refine go_loop (ε := List Pin × Bool) h 0 (fun e => e) (fun (v8__8, v9__9, v10__10) => [(⟨.a, .b, .a⟩, .sl 3 (mp cPin v8__8) (.id 0)), (⟨.a, .b, .b⟩, .v (.bool v9__9)), (⟨.a, .b, .c⟩, .v (.int .i64 v10__10))]) (fun (v8__8, v9__9, v10__10) => [[.v (.int .i64 x1.From), .v (.int .i64 x1.To), .v (.int .i64 x1.Word)]]) (fun (v8__8, v9__9, v10__10) => [(v8__8).length]) (fun (v8_11, v9_12) => [(⟨.a, .b, .a⟩, .sl 3 (mp cPin v8_11) (.id 0)), (⟨.a, .b, .b⟩, .v (.bool v9_12))]) (fun (v8_11, v9_12) => [[.v (.int .i64 x1.From), .v (.int .i64 x1.To), .v (.int .i64 x1.Word)]]) (fun (v8_11, v9_12) => [(v8_11).length]) (wkN_of 0 [0] (by simp) (by simp) (by simp) (by simp) (by simp)) ?_ ?_
      · rintro ⟨v8_11, v9_12⟩ hq
        try simp -implicitDefEqProofs
        have h := hn_7
        rw [hq] at h
        try dsimp only at h
        refine go_seq ?_
        refine go_seq ?_
        refine go_reg ?_
        try simp -implicitDefEqProofs
        repeat (with_reducible refine And.intro (by omega) ?_)
        refine go_join h [⟨.a, .b, .a⟩, ⟨.a, .h, .f⟩, ⟨.a, .h, .g⟩, ⟨.a, .h, .h⟩, ⟨.b, .a, .a⟩] (fun v8_38 => [(⟨.a, .b, .a⟩, .sl 3 (mp cPin v8_38) (.id 0))]) (fun v8_38 => [[.v (.int .i64 x1.From), .v (.int .i64 x1.To), .v (.int .i64 x1.Word)]]) (fun v8_38 => [(v8_38).length]) (by repeat (first | exact soft_c | refine soft_b ?_)) ?_ ?_
        · rintro v8_38 h
          try dsimp only at h
          try simp -implicitDefEqProofs
          refine go_seq ?_
          refine go_reg ?_
          try simp -implicitDefEqProofs
          repeat (with_reducible refine And.intro (by omega) ?_)
          obtain rfl := Option.some.inj h
          refine go_ret ?_
          simp -implicitDefEqProofs
        · intro v E h hJ
          refine go_cond ?_
          try simp -implicitDefEqProofs
          repeat (with_reducible refine And.intro (by omega) ?_)
          first | with_reducible refine selP_ite h (by first | exact Iff.rfl | omega | (simp; done) | (simp; done) | fail) ?_ ?_ | with_reducible refine selP_ite2 h (by first | exact Iff.rfl | omega | (simp; done) | (simp [Pin.eqi, Edge.eqi, Arr3U8.eqi, Lattice.eqi]; done) | fail) ?_ ?_ | with_reducible refine selP_ite h (by first | (simp only [Pin.eqi, Edge.eqi, Arr3U8.eqi, Lattice.eqi]; grind) | grind | fail) ?_ ?_ | with_reducible refine selP_ite2 h (by first | (simp only [Pin.eqi, Edge.eqi, Arr3U8.eqi, Lattice.eqi]; grind) | grind | fail) ?_ ?_
          · intro c_40 p_40 h
            refine go_skip ?_
            refine go_l ?_
            obtain rfl := Option.some.inj h
            exact hJ _ (wkN_of 1 [] (by simp [c_40]) (by simp [c_40]) (by simp) (by simp) (by simp))
          · intro c_40 p_40 h
            have q_40 := eq_false_of_ne_true c_40
            refine go_reg ?_
            obtain ⟨c_41, h⟩ := chk_elim h
            try simp -implicitDefEqProofs [p_40]
            repeat (with_reducible refine And.intro (by omega) ?_)
            refine runR_apiT cPin v8_11 [x1] (by first | rfl | simp) (elems_mp cPin _ _ [x1] _) (by simp) c_41 ?_ (by decide)
            try simp -implicitDefEqProofs
            repeat (with_reducible refine And.intro (by omega) ?_)
            refine go_l ?_
            obtain rfl := Option.some.inj h
            exact hJ _ (wkN_of 1 [] (by simp [c_40]) (by simp [c_40]) (by simp) (by simp) (by simp))
      · rintro ⟨v8__8, v9__9, v10__10⟩ o B' E' h hB hE hR
        simp only [ref18_Put_L1] at h
        simp -implicitDefEqProofs
        refine go_seq ?_
        refine go_seq ?_
        refine go_reg ?_
        try simp -implicitDefEqProofs
        repeat (with_reducible refine And.intro (by omega) ?_)
        refine go_cond ?_
        try simp -implicitDefEqProofs
        repeat (with_reducible refine And.intro (by omega) ?_)
        first | with_reducible refine selP_ite h (by first | exact Iff.rfl | omega | (simp; done) | (simp [Pin.eqi, Edge.eqi, Arr3U8.eqi, Lattice.eqi]; done) | fail) ?_ ?_ | with_reducible refine selP_ite2 h (by first | exact Iff.rfl | omega | (simp; done) | (simp [Pin.eqi, Edge.eqi, Arr3U8.eqi, Lattice.eqi]; done) | fail) ?_ ?_ | with_reducible refine selP_ite h (by first | (simp only [Pin.eqi, Edge.eqi, Arr3U8.eqi, Lattice.eqi]; grind) | grind | fail) ?_ ?_ | with_reducible refine selP_ite2 h (by first | (simp only [Pin.eqi, Edge.eqi, Arr3U8.eqi, Lattice.eqi]; grind) | grind | fail) ?_ ?_
        · intro c_13 p_13 h
          refine go_skip ?_
          refine go_seq ?_
          refine go_block ?_
          refine go_seq ?_
          refine go_seq ?_
          refine go_reg ?_
          refine run_join h [⟨.a, .d, .f⟩, ⟨.a, .d, .g⟩, ⟨.a, .d, .h⟩, ⟨.a, .e, .a⟩, ⟨.a, .e, .b⟩, ⟨.a, .e, .c⟩, ⟨.a, .e, .d⟩, ⟨.a, .e, .e⟩, ⟨.a, .e, .f⟩, ⟨.a, .e, .g⟩, ⟨.a, .e, .h⟩, ⟨.a, .f, .a⟩] (fun v40_14 => [(⟨.a, .f, .a⟩, .v (.bool v40_14))]) (fun v40_14 => [[.v (.int .i64 x1.From), .v (.int .i64 x1.To), .v (.int .i64 x1.Word)]]) (fun v40_14 => [(v8__8).length]) (by repeat (first | exact soft_c | refine soft_b ?_)) ?_ ?_
          · rintro v40_14 h
            try dsimp only at h
            try simp -implicitDefEqProofs
            refine go_join h [⟨.a, .b, .a⟩, ⟨.a, .b, .b⟩, ⟨.a, .f, .b⟩, ⟨.a, .f, .c⟩, ⟨.a, .f, .d⟩, ⟨.a, .f, .e⟩] (fun (v8_21, v9_22) => [(⟨.a, .b, .a⟩, .sl 3 (mp cPin v8_21) (.id 0)), (⟨.a, .b, .b⟩, .v (.bool v9_22))]) (fun (v8_21, v9_22) => [[.v (.int .i64 x1.From), .v (.int .i64 x1.To), .v (.int .i64 x1.Word)]]) (fun (v8_21, v9_22) => [(v8_21).length]) (by repeat (first | exact soft_c | refine soft_b ?_)) ?_ ?_
            · rintro ⟨v8_21, v9_22⟩ h
              try dsimp only at h
              try simp -implicitDefEqProofs
              refine go_seq ?_
              refine go_reg ?_
              obtain ⟨⟨c_27, c_28⟩, h⟩ := chk_elim h
              have k_29 := toNat_lt c_27 c_28
              obtain ⟨w50_30, hc, h⟩ := bind_elim h
              try simp -implicitDefEqProofs [c_13, c_27, k_29]
              repeat (with_reducible refine And.intro (by omega) ?_)
              refine runC_t (link_ref18_Overlap hc) (by simp) ?_
              try simp -implicitDefEqProofs
              repeat (with_reducible refine And.intro (by omega) ?_)
              refine go_join h [⟨.a, .b, .a⟩, ⟨.a, .g, .e⟩, ⟨.a, .g, .f⟩, ⟨.a, .g, .g⟩, ⟨.a, .g, .h⟩, ⟨.a, .h, .a⟩, ⟨.a, .h, .b⟩, ⟨.a, .h, .c⟩] (fun v8_31 => [(⟨.a, .b, .a⟩, .sl 3 (mp cPin v8_31) (.id 0))]) (fun v8_31 => [[.v (.int .i64 x1.From), .v (.int .i64 x1.To), .v (.int .i64 x1.Word)]]) (fun v8_31 => [(v8_31).length]) (by repeat (first | exact soft_c | refine soft_b ?_)) ?_ ?_
              · rintro v8_31 h
                try dsimp only at h
                try simp -implicitDefEqProofs
                refine go_b ?_
                refine go_reg ?_
                obtain ⟨⟨c_36, c_37⟩, h⟩ := chk_elim h
                try simp -implicitDefEqProofs [c_36, c_37]
                repeat (with_reducible refine And.intro (by omega) ?_)
                refine go_l ?_
                exact hB _ _ (Option.some.inj h).symm (wkN_of 1 [] (by simp) (by simp) (by simp) (by simp) (by simp))
              · intro v E h hJ
                refine go_cond ?_
                try simp -implicitDefEqProofs
                repeat (with_reducible refine And.intro (by omega) ?_)
                first | with_reducible refine selP_ite h (by first | exact Iff.rfl | omega | (simp; done) | (simp; done) | fail) ?_ ?_ | with_reducible refine selP_ite2 h (by first | exact Iff.rfl | omega | (simp; done) | (simp [Pin.eqi, Edge.eqi, Arr3U8.eqi, Lattice.eqi]; done) | fail) ?_ ?_ | with_reducible refine selP_ite h (by first | (simp only [Pin.eqi, Edge.eqi, Arr3U8.eqi, Lattice.eqi]; grind) | grind | fail) ?_ ?_ | with_reducible refine selP_ite2 h (by first | (simp only [Pin.eqi, Edge.eqi, Arr3U8.eqi, Lattice.eqi]; grind) | grind | fail) ?_ ?_
                · intro c_33 p_33 h
                  refine go_skip ?_
                  refine go_l ?_
                  obtain rfl := Option.some.inj h
                  exact hJ _ (wkN_of 1 [] (by simp [c_33]) (by simp [c_33]) (by simp) (by simp) (by simp))
                · intro c_33 p_33 h
                  have q_33 := eq_false_of_ne_true c_33
                  refine go_reg ?_
                  obtain ⟨c_34, h⟩ := chk_elim h
                  try simp -implicitDefEqProofs [c_13, c_27, k_29, p_33]
                  repeat (with_reducible refine And.intro (by omega) ?_)
                  refine runR_apiT cPin v8_21 [at' x0 v10__10] (by first | rfl | simp) (elems_mp cPin _ _ [at' x0 v10__10] _) (by simp) c_34 ?_ (by decide)
                  try simp -implicitDefEqProofs
                  repeat (with_reducible refine And.intro (by omega) ?_)
                  refine go_l ?_
                  obtain rfl := Option.some.inj h
                  exact hJ _ (wkN_of 1 [] (by simp [c_33]) (by simp [c_33]) (by simp) (by simp) (by simp))
            · intro v E h hJ
              refine go_cond ?_
              try simp -implicitDefEqProofs [c_13]
              repeat (with_reducible refine And.intro (by omega) ?_)
              first | with_reducible refine selP_ite h (by first | exact Iff.rfl | omega | (simp; done) | (simp [Pin.eqi, Edge.eqi, Arr3U8.eqi, Lattice.eqi]; done) | fail) ?_ ?_ | with_reducible refine selP_ite2 h (by first | exact Iff.rfl | omega | (simp; done) | (simp [Pin.eqi, Edge.eqi, Arr3U8.eqi, Lattice.eqi]; done) | fail) ?_ ?_ | with_reducible refine selP_ite h (by first | (simp only [Pin.eqi, Edge.eqi, Arr3U8.eqi, Lattice.eqi]; grind) | grind | fail) ?_ ?_ | with_reducible refine selP_ite2 h (by first | (simp only [Pin.eqi, Edge.eqi, Arr3U8.eqi, Lattice.eqi]; grind) | grind | fail) ?_ ?_
              · intro c_24 p_24 h
                refine go_seq ?_
                refine go_reg ?_
                obtain ⟨c_25, h⟩ := chk_elim h
                try simp -implicitDefEqProofs [c_13, c_24]
                repeat (with_reducible refine And.intro (by omega) ?_)
                refine runR_apiT cPin v8__8 [x1] (by first | rfl | simp) (elems_mp cPin _ _ [x1] _) (by simp) c_25 ?_ (by decide)
                try simp -implicitDefEqProofs
                repeat (with_reducible refine And.intro (by omega) ?_)
                refine go_reg ?_
                try simp -implicitDefEqProofs
                repeat (with_reducible refine And.intro (by omega) ?_)
                refine go_l ?_
                obtain rfl := Option.some.inj h
                exact hJ _ (wkN_of 1 [] (by simp [c_13, c_24]) (by simp [c_13, c_24]) (by simp) (by simp) (by simp))
              · intro c_24 p_24 h
                have q_24 := eq_false_of_ne_true c_24
                refine go_skip ?_
                refine go_l ?_
                obtain rfl := Option.some.inj h
                exact hJ _ (wkN_of 1 [] (by simp [c_13, c_24]) (by simp [c_13, c_24]) (by simp) (by simp) (by simp))
          · intro v E h hJ
            try simp -implicitDefEqProofs [c_13]
            repeat (with_reducible refine And.intro (by omega) ?_)
            first | with_reducible refine selP_ite h (by first | exact Iff.rfl | omega | (simp; done) | (simp; done) | fail) ?_ ?_ | with_reducible refine selP_ite2 h (by first | exact Iff.rfl | omega | (simp; done) | (simp [Pin.eqi, Edge.eqi, Arr3U8.eqi, Lattice.eqi]; done) | fail) ?_ ?_ | with_reducible refine selP_ite h (by first | (simp only [Pin.eqi, Edge.eqi, Arr3U8.eqi, Lattice.eqi]; grind) | grind | fail) ?_ ?_ | with_reducible refine selP_ite2 h (by first | (simp only [Pin.eqi, Edge.eqi, Arr3U8.eqi, Lattice.eqi]; grind) | grind | fail) ?_ ?_
            · intro c_16 p_16 h
              try simp -implicitDefEqProofs [c_16]
              repeat (with_reducible refine And.intro (by omega) ?_)
              refine go_l ?_
              obtain rfl := Option.some.inj h
              exact hJ _ (wkN_of 1 [] (by simp [c_13, c_16]) (by simp [c_13, c_16]) (by simp) (by simp) (by simp))
            · intro c_16 p_16 h
              have q_16 := eq_false_of_ne_true c_16
              obtain ⟨⟨c_18, c_19⟩, h⟩ := chk_elim h
              have k_20 := toNat_lt c_18 c_19
              try simp -implicitDefEqProofs [c_13, p_16, c_18, k_20]
              repeat (with_reducible refine And.intro (by omega) ?_)
              refine go_l ?_
              obtain rfl := Option.some.inj h
              exact hJ _ (wkN_of 1 [] (by simp [c_13, c_16]) (by simp [c_13, c_16]) (by simp) (by simp) (by simp))
        · intro c_13 p_13 h
          refine go_exit ?_
          simp -implicitDefEqProofs
          exact hE _ _ (Option.some.inj h).symm (wkN_of 1 [] (by simp [c_13]) (by simp) (by simp) (by simp) (by simp))
  · intro v E h hJ
    obtain ⟨w13_3, hc, h⟩ := bind_elim h
    try simp -implicitDefEqProofs
    repeat (with_reducible refine And.intro (by omega) ?_)
    refine runC_t (link_ref18_Valid hc) (by simp) ?_
    try simp -implicitDefEqProofs
    repeat (with_reducible refine And.intro (by omega) ?_)
    first | with_reducible refine selP_ite h (by first | exact Iff.rfl | omega | (simp; done) | (simp [Pin.eqi, Edge.eqi, Arr3U8.eqi, Lattice.eqi]; done) | fail) ?_ ?_ | with_reducible refine selP_ite2 h (by first | exact Iff.rfl | omega | (simp; done) | (simp [Pin.eqi, Edge.eqi, Arr3U8.eqi, Lattice.eqi]; done) | fail) ?_ ?_ | with_reducible refine selP_ite h (by first | (simp only [Pin.eqi, Edge.eqi, Arr3U8.eqi, Lattice.eqi]; grind) | grind | fail) ?_ ?_ | with_reducible refine selP_ite2 h (by first | (simp only [Pin.eqi, Edge.eqi, Arr3U8.eqi, Lattice.eqi]; grind) | grind | fail) ?_ ?_
    · intro c_4 p_4 h
      obtain ⟨w19_5, hc, h⟩ := bind_elim h
      try simp -implicitDefEqProofs [c_4]
      repeat (with_reducible refine And.intro (by omega) ?_)
      refine runC_t (link_ref18_Valid hc) (by simp) ?_
      try simp -implicitDefEqProofs
      repeat (with_reducible refine And.intro (by omega) ?_)
      refine go_l ?_
      obtain rfl := Option.some.inj h
      exact hJ _ (wkN_of 0 [] (by simp) (by simp) (by simp) (by simp) (by simp))
    · intro c_4 p_4 h
      have q_4 := eq_false_of_ne_true c_4
      try simp -implicitDefEqProofs [q_4]
      repeat (with_reducible refine And.intro (by omega) ?_)
      refine go_l ?_
      obtain rfl := Option.some.inj h
      exact hJ _ (wkN_of 0 [] (by simp) (by simp) (by simp) (by simp) (by simp))
def ref18_Made_L1 (x0 : List Arr3U8) (x1 : Int) : (List Pin × Int) → Option ((List Pin × Int) ⊕ ((List Pin))) := fun (v5__2, v6__3) =>
  (
    (
      if v6__3 < (x0.length : Int) then (
        some (decide (v6__3 < 5))
      ) else (
        some false
      )
    : Option (Bool))
  ).bind fun v15_5 =>
  if v15_5 = true then (
    chk (0 ≤ v6__3 ∧ v6__3 < (x0.length : Int)) <|
    (ref18_Pin (at' x0 v6__3) x1).bind fun w25_13 =>
    (ref18_Put v5__2 w25_13 x1).bind fun w27_14 =>
    chk (-9223372036854775808 ≤ v6__3 + 1 ∧ v6__3 + 1 ≤ 9223372036854775807) <|
    some (.inl (w27_14.1, v6__3 + 1))
  ) else (
    some (.inr v5__2)
  )
def ref18_Made (x0 : List Arr3U8) (x1 : Int) : Option (List Pin) :=
  (loop (ref18_Made_L1 x0 x1) ([], 0)).bind fun v5_4 =>
  some v5_4
theorem link_ref18_Made {x0 : List Arr3U8} {x1 : Int} {r : List Pin} (h : ref18_Made x0 x1 = some r) : PCalls Try.prog 10 [.sl 3 (mp cArr3U8 x0) .lent, .v (.int .i64 x1)] (.sl 3 (mp cPin r) .none) := by
  unfold ref18_Made at h
  refine pcalls is10 na10 ?_
  try simp -implicitDefEqProofs
  refine go_seq ?_
  refine go_reg ?_
  try simp -implicitDefEqProofs
  repeat (with_reducible refine And.intro (by omega) ?_)
  refine go_seq ?_
  refine go_reg ?_
  try simp -implicitDefEqProofs
  repeat (with_reducible refine And.intro (by omega) ?_)
  refine go_seq ?_
  refine go_seq ?_
  refine go_reg ?_
  try simp -implicitDefEqProofs
  repeat (with_reducible refine And.intro (by omega) ?_)
  refine go_block ?_
  obtain ⟨rr_18, h, hn_1⟩ := bind_elim h
  refine go_loop (ε := List Pin) h 0 (fun e => e) (fun (v5__2, v6__3) => [(⟨.a, .a, .f⟩, .sl 3 (mp cPin v5__2) .none), (⟨.a, .a, .g⟩, .v (.int .i64 v6__3))]) (fun (v5__2, v6__3) => []) (fun (v5__2, v6__3) => []) (fun v5_4 => [(⟨.a, .a, .f⟩, .sl 3 (mp cPin v5_4) .none)]) (fun v5_4 => []) (fun v5_4 => []) (wkN_of 0 [] (by simp) (by simp) (by simp) (by simp) (by simp)) ?_ ?_
  · rintro v5_4 hq
    try simp -implicitDefEqProofs
    have h := hn_1
    rw [hq] at h
    try dsimp only at h
    refine go_seq ?_
    refine go_reg ?_
    try simp -implicitDefEqProofs
    repeat (with_reducible refine And.intro (by omega) ?_)
    obtain rfl := Option.some.inj h
    refine go_ret ?_
    simp -implicitDefEqProofs
  · rintro ⟨v5__2, v6__3⟩ o B' E' h hB hE hR
    simp only [ref18_Made_L1] at h
    simp -implicitDefEqProofs
    refine go_seq ?_
    refine go_seq ?_
    refine go_reg ?_
    refine run_join h [⟨.a, .b, .a⟩, ⟨.a, .b, .b⟩, ⟨.a, .b, .c⟩, ⟨.a, .b, .d⟩, ⟨.a, .b, .e⟩, ⟨.a, .b, .f⟩, ⟨.a, .b, .g⟩, ⟨.a, .b, .h⟩] (fun v15_5 => [(⟨.a, .b, .h⟩, .v (.bool v15_5))]) (fun v15_5 => []) (fun v15_5 => []) (by repeat (first | exact soft_c | refine soft_b ?_)) ?_ ?_
    · rintro v15_5 h
      try dsimp only at h
      try simp -implicitDefEqProofs
      refine go_cond ?_
      try simp -implicitDefEqProofs
      repeat (with_reducible refine And.intro (by omega) ?_)
      first | with_reducible refine selP_ite h (by first | exact Iff.rfl | omega | (simp; done) | (simp [Pin.eqi, Edge.eqi, Arr3U8.eqi, Lattice.eqi]; done) | fail) ?_ ?_ | with_reducible refine selP_ite2 h (by first | exact Iff.rfl | omega | (simp; done) | (simp [Pin.eqi, Edge.eqi, Arr3U8.eqi, Lattice.eqi]; done) | fail) ?_ ?_ | with_reducible refine selP_ite h (by first | (simp only [Pin.eqi, Edge.eqi, Arr3U8.eqi, Lattice.eqi]; grind) | grind | fail) ?_ ?_ | with_reducible refine selP_ite2 h (by first | (simp only [Pin.eqi, Edge.eqi, Arr3U8.eqi, Lattice.eqi]; grind) | grind | fail) ?_ ?_
      · intro c_8 p_8 h
        refine go_skip ?_
        refine go_seq ?_
        refine go_block ?_
        refine go_reg ?_
        obtain ⟨⟨c_10, c_11⟩, h⟩ := chk_elim h
        have k_12 := toNat_lt c_10 c_11
        obtain ⟨w25_13, hc, h⟩ := bind_elim h
        try simp -implicitDefEqProofs [c_8, c_10, c_11, k_12]
        repeat (with_reducible refine And.intro (by omega) ?_)
        refine runC_t (link_ref18_Pin hc) (by simp) ?_
        obtain ⟨w27_14, hc, h⟩ := bind_elim h
        try simp -implicitDefEqProofs
        repeat (with_reducible refine And.intro (by omega) ?_)
        refine runC_t (link_ref18_Put hc) (by simp) ?_
        try simp -implicitDefEqProofs
        repeat (with_reducible refine And.intro (by omega) ?_)
        refine go_b ?_
        refine go_reg ?_
        obtain ⟨⟨c_16, c_17⟩, h⟩ := chk_elim h
        try simp -implicitDefEqProofs [c_16, c_17]
        repeat (with_reducible refine And.intro (by omega) ?_)
        refine go_l ?_
        exact hB _ _ (Option.some.inj h).symm (wkN_of 0 [] (by simp) (by simp) (by simp) (by simp) (by simp))
      · intro c_8 p_8 h
        have q_8 := eq_false_of_ne_true c_8
        refine go_exit ?_
        simp -implicitDefEqProofs
        exact hE _ _ (Option.some.inj h).symm (wkN_of 0 [] (by simp [c_8]) (by simp) (by simp) (by simp) (by simp))
    · intro v E h hJ
      try simp -implicitDefEqProofs
      repeat (with_reducible refine And.intro (by omega) ?_)
      first | with_reducible refine selP_ite h (by first | exact Iff.rfl | omega | (simp; done) | (simp [Pin.eqi, Edge.eqi, Arr3U8.eqi, Lattice.eqi]; done) | fail) ?_ ?_ | with_reducible refine selP_ite2 h (by first | exact Iff.rfl | omega | (simp; done) | (simp [Pin.eqi, Edge.eqi, Arr3U8.eqi, Lattice.eqi]; done) | fail) ?_ ?_ | with_reducible refine selP_ite h (by first | (simp only [Pin.eqi, Edge.eqi, Arr3U8.eqi, Lattice.eqi]; grind) | grind | fail) ?_ ?_ | with_reducible refine selP_ite2 h (by first | (simp only [Pin.eqi, Edge.eqi, Arr3U8.eqi, Lattice.eqi]; grind) | grind | fail) ?_ ?_
      · intro c_7 p_7 h
        try simp -implicitDefEqProofs [c_7]
        repeat (with_reducible refine And.intro (by omega) ?_)
        refine go_l ?_
        obtain rfl := Option.some.inj h
        exact hJ _ (wkN_of 0 [] (by simp) (by simp) (by simp) (by simp) (by simp))
      · intro c_7 p_7 h
        try simp -implicitDefEqProofs [c_7]
        repeat (with_reducible refine And.intro (by omega) ?_)
        refine go_l ?_
        obtain rfl := Option.some.inj h
        exact hJ _ (wkN_of 0 [] (by simp) (by simp) (by simp) (by simp) (by simp))
def ref18_Same_L1 (x0 : List Pin) (x1 : List Pin) : Int → Option (Int ⊕ (Bool ⊕ Unit)) := fun v5__3 =>
  if v5__3 < (x0.length : Int) then (
    chk (0 ≤ v5__3 ∧ v5__3 < (x0.length : Int)) <|
    chk (0 ≤ v5__3 ∧ v5__3 < (x1.length : Int)) <|
    if (at' x0 v5__3) = (at' x1 v5__3) then (
      chk (-9223372036854775808 ≤ v5__3 + 1 ∧ v5__3 + 1 ≤ 9223372036854775807) <|
      some (.inl (v5__3 + 1))
    ) else (
      some (.inr (.inl false))
    )
  ) else (
    some (.inr (.inr ()))
  )
def ref18_Same (x0 : List Pin) (x1 : List Pin) : Option Bool :=
  if (x0.length : Int) = (x1.length : Int) then (
    (loop (ref18_Same_L1 x0 x1) 0).bind fun
    | .inl e => some e
    | .inr _ =>
    some true
  ) else (
    some false
  )
theorem link_ref18_Same {x0 : List Pin} {x1 : List Pin} {r : Bool} (h : ref18_Same x0 x1 = some r) : PCalls Try.prog 14 [.sl 3 (mp cPin x0) .lent, .sl 3 (mp cPin x1) .lent] (.v (.bool r)) := by
  unfold ref18_Same at h
  refine pcalls is14 na14 ?_
  try simp -implicitDefEqProofs
  refine go_seq ?_
  refine go_reg ?_
  try simp -implicitDefEqProofs
  repeat (with_reducible refine And.intro (by omega) ?_)
  refine go_seq ?_
  refine go_seq ?_
  refine go_reg ?_
  try simp -implicitDefEqProofs
  repeat (with_reducible refine And.intro (by omega) ?_)
  refine go_cond ?_
  try simp -implicitDefEqProofs
  repeat (with_reducible refine And.intro (by omega) ?_)
  first | with_reducible refine selP_ite h (by first | exact Iff.rfl | omega | (simp; done) | (simp [Pin.eqi, Edge.eqi, Arr3U8.eqi, Lattice.eqi]; done) | fail) ?_ ?_ | with_reducible refine selP_ite2 h (by first | exact Iff.rfl | omega | (simp; done) | (simp [Pin.eqi, Edge.eqi, Arr3U8.eqi, Lattice.eqi]; done) | fail) ?_ ?_ | with_reducible refine selP_ite h (by first | (simp only [Pin.eqi, Edge.eqi, Arr3U8.eqi, Lattice.eqi]; grind) | grind | fail) ?_ ?_ | with_reducible refine selP_ite2 h (by first | (simp only [Pin.eqi, Edge.eqi, Arr3U8.eqi, Lattice.eqi]; grind) | grind | fail) ?_ ?_
  · intro c_1 p_1 h
    refine go_skip ?_
    refine go_seq ?_
    refine go_seq ?_
    refine go_reg ?_
    try simp -implicitDefEqProofs [c_1]
    repeat (with_reducible refine And.intro (by omega) ?_)
    refine go_block ?_
    obtain ⟨rr_17, h, hn_2⟩ := bind_elim h
    refine go_loop (ε := Unit) h 0 (fun e => .inr e) (fun v5__3 => [(⟨.a, .a, .f⟩, .v (.int .i64 v5__3))]) (fun v5__3 => []) (fun v5__3 => []) (fun _ => []) (fun _ => []) (fun _ => []) (wkN_of 0 [] (by simp) (by simp) (by simp) (by simp) (by simp)) ?_ ?_
    · rintro ⟨⟩ hq
      try simp -implicitDefEqProofs
      have h := hn_2
      rw [hq] at h
      try dsimp only at h
      refine go_seq ?_
      refine go_reg ?_
      try simp -implicitDefEqProofs
      repeat (with_reducible refine And.intro (by omega) ?_)
      obtain rfl := Option.some.inj h
      refine go_ret ?_
      simp -implicitDefEqProofs
    · rintro v5__3 o B' E' h hB hE hR
      simp only [ref18_Same_L1] at h
      simp -implicitDefEqProofs
      refine go_seq ?_
      refine go_seq ?_
      refine go_reg ?_
      try simp -implicitDefEqProofs
      repeat (with_reducible refine And.intro (by omega) ?_)
      refine go_cond ?_
      try simp -implicitDefEqProofs
      repeat (with_reducible refine And.intro (by omega) ?_)
      first | with_reducible refine selP_ite h (by first | exact Iff.rfl | omega | (simp; done) | (simp [Pin.eqi, Edge.eqi, Arr3U8.eqi, Lattice.eqi]; done) | fail) ?_ ?_ | with_reducible refine selP_ite2 h (by first | exact Iff.rfl | omega | (simp; done) | (simp [Pin.eqi, Edge.eqi, Arr3U8.eqi, Lattice.eqi]; done) | fail) ?_ ?_ | with_reducible refine selP_ite h (by first | (simp only [Pin.eqi, Edge.eqi, Arr3U8.eqi, Lattice.eqi]; grind) | grind | fail) ?_ ?_ | with_reducible refine selP_ite2 h (by first | (simp only [Pin.eqi, Edge.eqi, Arr3U8.eqi, Lattice.eqi]; grind) | grind | fail) ?_ ?_
      · intro c_4 p_4 h
        refine go_skip ?_
        refine go_seq ?_
        refine go_block ?_
        refine go_seq ?_
        refine go_reg ?_
        obtain ⟨⟨c_6, c_7⟩, h⟩ := chk_elim h
        have k_8 := toNat_lt c_6 c_7
        obtain ⟨⟨c_10, c_11⟩, h⟩ := chk_elim h
        have k_12 := toNat_lt c_10 c_11
        try simp -implicitDefEqProofs [c_4, c_6, k_8, c_11, k_12]
        repeat (with_reducible refine And.intro (by omega) ?_)
        refine go_cond ?_
        try simp -implicitDefEqProofs
        repeat (with_reducible refine And.intro (by omega) ?_)
        first | with_reducible refine selP_ite h (by first | exact Iff.rfl | omega | (simp; done) | (simp [Pin.eqi]; done) | fail) ?_ ?_ | with_reducible refine selP_ite2 h (by first | exact Iff.rfl | omega | (simp; done) | (simp [Pin.eqi]; done) | fail) ?_ ?_ | with_reducible refine selP_ite h (by first | (simp only [Pin.eqi]; grind) | grind | fail) ?_ ?_ | with_reducible refine selP_ite2 h (by first | (simp only [Pin.eqi]; grind) | grind | fail) ?_ ?_
        · intro c_13 p_13 h
          refine go_skip ?_
          refine go_b ?_
          refine go_reg ?_
          obtain ⟨⟨c_15, c_16⟩, h⟩ := chk_elim h
          try simp -implicitDefEqProofs [c_15, c_16]
          repeat (with_reducible refine And.intro (by omega) ?_)
          refine go_l ?_
          exact hB _ _ (Option.some.inj h).symm (wkN_of 0 [] (by simp) (by simp) (by simp) (by simp) (by simp))
        · intro c_13 p_13 h
          refine go_seq ?_
          refine go_reg ?_
          try simp -implicitDefEqProofs
          repeat (with_reducible refine And.intro (by omega) ?_)
          obtain rfl := hR _ (Option.some.inj h).symm
          try dsimp only at hn_2
          have h := hn_2
          obtain rfl := Option.some.inj h
          refine go_ret ?_
          simp -implicitDefEqProofs
      · intro c_4 p_4 h
        refine go_exit ?_
        simp -implicitDefEqProofs
        exact hE _ _ (Option.some.inj h).symm (wkN_of 0 [] (by simp [c_4]) (by simp) (by simp) (by simp) (by simp))
  · intro c_1 p_1 h
    refine go_seq ?_
    refine go_reg ?_
    try simp -implicitDefEqProofs [c_1]
    repeat (with_reducible refine And.intro (by omega) ?_)
    obtain rfl := Option.some.inj h
    refine go_ret ?_
    simp -implicitDefEqProofs
def ref18_Has_L1 (x0 : List Pin) (x1 : Pin) : Int → Option (Int ⊕ (Bool ⊕ Unit)) := fun v5__2 =>
  if v5__2 < (x0.length : Int) then (
    chk (0 ≤ v5__2 ∧ v5__2 < (x0.length : Int)) <|
    if (at' x0 v5__2) = x1 then (
      some (.inr (.inl true))
    ) else (
      chk (-9223372036854775808 ≤ v5__2 + 1 ∧ v5__2 + 1 ≤ 9223372036854775807) <|
      some (.inl (v5__2 + 1))
    )
  ) else (
    some (.inr (.inr ()))
  )
def ref18_Has (x0 : List Pin) (x1 : Pin) : Option Bool :=
  (loop (ref18_Has_L1 x0 x1) 0).bind fun
  | .inl e => some e
  | .inr _ =>
  some false
theorem link_ref18_Has {x0 : List Pin} {x1 : Pin} {r : Bool} (h : ref18_Has x0 x1 = some r) : PCalls Try.prog 24 [.sl 3 (mp cPin x0) .lent, .agg (cPin x1)] (.v (.bool r)) := by
  unfold ref18_Has at h
  refine pcalls is24 na24 ?_
  try simp -implicitDefEqProofs
  refine go_seq ?_
  refine go_reg ?_
  try simp -implicitDefEqProofs
  repeat (with_reducible refine And.intro (by omega) ?_)
  refine go_seq ?_
  refine go_seq ?_
  refine go_reg ?_
  try simp -implicitDefEqProofs
  repeat (with_reducible refine And.intro (by omega) ?_)
  refine go_block ?_
  obtain ⟨rr_12, h, hn_1⟩ := bind_elim h
  refine go_loop (ε := Unit) h 0 (fun e => .inr e) (fun v5__2 => [(⟨.a, .a, .f⟩, .v (.int .i64 v5__2))]) (fun v5__2 => [[.v (.int .i64 x1.From), .v (.int .i64 x1.To), .v (.int .i64 x1.Word)]]) (fun v5__2 => []) (fun _ => []) (fun _ => [[.v (.int .i64 x1.From), .v (.int .i64 x1.To), .v (.int .i64 x1.Word)]]) (fun _ => []) (wkN_of 0 [] (by simp) (by simp) (by simp) (by simp) (by simp)) ?_ ?_
  · rintro ⟨⟩ hq
    try simp -implicitDefEqProofs
    have h := hn_1
    rw [hq] at h
    try dsimp only at h
    refine go_seq ?_
    refine go_reg ?_
    try simp -implicitDefEqProofs
    repeat (with_reducible refine And.intro (by omega) ?_)
    obtain rfl := Option.some.inj h
    refine go_ret ?_
    simp -implicitDefEqProofs
  · rintro v5__2 o B' E' h hB hE hR
    simp only [ref18_Has_L1] at h
    simp -implicitDefEqProofs
    refine go_seq ?_
    refine go_seq ?_
    refine go_reg ?_
    try simp -implicitDefEqProofs
    repeat (with_reducible refine And.intro (by omega) ?_)
    refine go_cond ?_
    try simp -implicitDefEqProofs
    repeat (with_reducible refine And.intro (by omega) ?_)
    first | with_reducible refine selP_ite h (by first | exact Iff.rfl | omega | (simp; done) | (simp [Pin.eqi, Edge.eqi, Arr3U8.eqi, Lattice.eqi]; done) | fail) ?_ ?_ | with_reducible refine selP_ite2 h (by first | exact Iff.rfl | omega | (simp; done) | (simp [Pin.eqi, Edge.eqi, Arr3U8.eqi, Lattice.eqi]; done) | fail) ?_ ?_ | with_reducible refine selP_ite h (by first | (simp only [Pin.eqi, Edge.eqi, Arr3U8.eqi, Lattice.eqi]; grind) | grind | fail) ?_ ?_ | with_reducible refine selP_ite2 h (by first | (simp only [Pin.eqi, Edge.eqi, Arr3U8.eqi, Lattice.eqi]; grind) | grind | fail) ?_ ?_
    · intro c_3 p_3 h
      refine go_skip ?_
      refine go_seq ?_
      refine go_block ?_
      refine go_seq ?_
      refine go_reg ?_
      obtain ⟨⟨c_5, c_6⟩, h⟩ := chk_elim h
      have k_7 := toNat_lt c_5 c_6
      try simp -implicitDefEqProofs [c_3, c_5, k_7]
      repeat (with_reducible refine And.intro (by omega) ?_)
      refine go_cond ?_
      try simp -implicitDefEqProofs
      repeat (with_reducible refine And.intro (by omega) ?_)
      first | with_reducible refine selP_ite h (by first | exact Iff.rfl | omega | (simp; done) | (simp [Pin.eqi]; done) | fail) ?_ ?_ | with_reducible refine selP_ite2 h (by first | exact Iff.rfl | omega | (simp; done) | (simp [Pin.eqi, Edge.eqi, Arr3U8.eqi, Lattice.eqi]; done) | fail) ?_ ?_ | with_reducible refine selP_ite h (by first | (simp only [Pin.eqi, Edge.eqi, Arr3U8.eqi, Lattice.eqi]; grind) | grind | fail) ?_ ?_ | with_reducible refine selP_ite2 h (by first | (simp only [Pin.eqi, Edge.eqi, Arr3U8.eqi, Lattice.eqi]; grind) | grind | fail) ?_ ?_
      · intro c_8 p_8 h
        refine go_seq ?_
        refine go_reg ?_
        try simp -implicitDefEqProofs [p_8]
        repeat (with_reducible refine And.intro (by omega) ?_)
        obtain rfl := hR _ (Option.some.inj h).symm
        try dsimp only at hn_1
        have h := hn_1
        obtain rfl := Option.some.inj h
        refine go_ret ?_
        simp -implicitDefEqProofs
      · intro c_8 p_8 h
        refine go_skip ?_
        refine go_b ?_
        refine go_reg ?_
        obtain ⟨⟨c_10, c_11⟩, h⟩ := chk_elim h
        try simp -implicitDefEqProofs [c_10, c_11]
        repeat (with_reducible refine And.intro (by omega) ?_)
        refine go_l ?_
        exact hB _ _ (Option.some.inj h).symm (wkN_of 0 [] (by simp) (by simp) (by simp) (by simp) (by simp))
    · intro c_3 p_3 h
      refine go_exit ?_
      simp -implicitDefEqProofs
      exact hE _ _ (Option.some.inj h).symm (wkN_of 0 [] (by simp [c_3]) (by simp) (by simp) (by simp) (by simp))
def ref18_SameEdges_L1 (x0 : Lattice) (x1 : Lattice) : Int → Option (Int ⊕ (Bool ⊕ Unit)) := fun v5__6 =>
  if v5__6 < (x0.Edges.length : Int) then (
    chk (0 ≤ v5__6 ∧ v5__6 < (x0.Edges.length : Int)) <|
    chk (0 ≤ v5__6 ∧ v5__6 < (x1.Edges.length : Int)) <|
    if (at' x0.Edges v5__6) = (at' x1.Edges v5__6) then (
      chk (-9223372036854775808 ≤ v5__6 + 1 ∧ v5__6 + 1 ≤ 9223372036854775807) <|
      some (.inl (v5__6 + 1))
    ) else (
      some (.inr (.inl false))
    )
  ) else (
    some (.inr (.inr ()))
  )
def ref18_SameEdges (x0 : Lattice) (x1 : Lattice) : Option Bool :=
  (
    (
      if x0.N = x1.N then (
        some (!decide ((x0.Edges.length : Int) = (x1.Edges.length : Int)))
      ) else (
        some true
      )
    : Option (Bool))
  ).bind fun v19_1 =>
  if v19_1 = true then (
    some false
  ) else (
    (loop (ref18_SameEdges_L1 x0 x1) 0).bind fun
    | .inl e => some e
    | .inr _ =>
    some true
  )
theorem link_ref18_SameEdges {x0 : Lattice} {x1 : Lattice} {r : Bool} (h : ref18_SameEdges x0 x1 = some r) : PCalls Try.prog 15 [.agg (cLattice .lent x0), .agg (cLattice .lent x1)] (.v (.bool r)) := by
  unfold ref18_SameEdges at h
  refine pcalls is15 na15 ?_
  try simp -implicitDefEqProofs
  refine go_seq ?_
  refine go_reg ?_
  try simp -implicitDefEqProofs
  repeat (with_reducible refine And.intro (by omega) ?_)
  refine go_seq ?_
  refine go_seq ?_
  refine go_reg ?_
  refine run_join h [⟨.a, .a, .g⟩, ⟨.a, .a, .h⟩, ⟨.a, .b, .a⟩, ⟨.a, .b, .b⟩, ⟨.a, .b, .c⟩, ⟨.a, .b, .d⟩, ⟨.a, .b, .e⟩, ⟨.a, .b, .f⟩, ⟨.a, .b, .g⟩, ⟨.a, .b, .h⟩, ⟨.a, .c, .a⟩, ⟨.a, .c, .b⟩, ⟨.a, .c, .c⟩, ⟨.a, .c, .d⟩] (fun v19_1 => [(⟨.a, .c, .d⟩, .v (.bool v19_1))]) (fun v19_1 => [[.v (.int .i64 x0.N), .sl 4 (mp cEdge x0.Edges) .lent], [.v (.int .i64 x1.N), .sl 4 (mp cEdge x1.Edges) .lent]]) (fun v19_1 => []) (by repeat (first | exact soft_c | refine soft_b ?_)) ?_ ?_
  · rintro v19_1 h
    try dsimp only at h
    try simp -implicitDefEqProofs
    refine go_cond ?_
    try simp -implicitDefEqProofs
    repeat (with_reducible refine And.intro (by omega) ?_)
    first | with_reducible refine selP_ite h (by first | exact Iff.rfl | omega | (simp; done) | (simp [Pin.eqi, Edge.eqi, Arr3U8.eqi, Lattice.eqi]; done) | fail) ?_ ?_ | with_reducible refine selP_ite2 h (by first | exact Iff.rfl | omega | (simp; done) | (simp [Pin.eqi, Edge.eqi, Arr3U8.eqi, Lattice.eqi]; done) | fail) ?_ ?_ | with_reducible refine selP_ite h (by first | (simp only [Pin.eqi, Edge.eqi, Arr3U8.eqi, Lattice.eqi]; grind) | grind | fail) ?_ ?_ | with_reducible refine selP_ite2 h (by first | (simp only [Pin.eqi, Edge.eqi, Arr3U8.eqi, Lattice.eqi]; grind) | grind | fail) ?_ ?_
    · intro c_4 p_4 h
      refine go_seq ?_
      refine go_reg ?_
      try simp -implicitDefEqProofs [c_4]
      repeat (with_reducible refine And.intro (by omega) ?_)
      obtain rfl := Option.some.inj h
      refine go_ret ?_
      simp -implicitDefEqProofs
    · intro c_4 p_4 h
      have q_4 := eq_false_of_ne_true c_4
      refine go_skip ?_
      refine go_seq ?_
      refine go_seq ?_
      refine go_reg ?_
      try simp -implicitDefEqProofs [q_4]
      repeat (with_reducible refine And.intro (by omega) ?_)
      refine go_block ?_
      obtain ⟨rr_20, h, hn_5⟩ := bind_elim h
      refine go_loop (ε := Unit) h 0 (fun e => .inr e) (fun v5__6 => [(⟨.a, .a, .f⟩, .v (.int .i64 v5__6))]) (fun v5__6 => [[.v (.int .i64 x0.N), .sl 4 (mp cEdge x0.Edges) .lent], [.v (.int .i64 x1.N), .sl 4 (mp cEdge x1.Edges) .lent]]) (fun v5__6 => []) (fun _ => []) (fun _ => [[.v (.int .i64 x0.N), .sl 4 (mp cEdge x0.Edges) .lent], [.v (.int .i64 x1.N), .sl 4 (mp cEdge x1.Edges) .lent]]) (fun _ => []) (wkN_of 0 [] (by simp) (by simp) (by simp) (by simp) (by simp)) ?_ ?_
      · rintro ⟨⟩ hq
        try simp -implicitDefEqProofs
        have h := hn_5
        rw [hq] at h
        try dsimp only at h
        refine go_seq ?_
        refine go_reg ?_
        try simp -implicitDefEqProofs
        repeat (with_reducible refine And.intro (by omega) ?_)
        obtain rfl := Option.some.inj h
        refine go_ret ?_
        simp -implicitDefEqProofs
      · rintro v5__6 o B' E' h hB hE hR
        simp only [ref18_SameEdges_L1] at h
        simp -implicitDefEqProofs
        refine go_seq ?_
        refine go_seq ?_
        refine go_reg ?_
        try simp -implicitDefEqProofs
        repeat (with_reducible refine And.intro (by omega) ?_)
        refine go_cond ?_
        try simp -implicitDefEqProofs
        repeat (with_reducible refine And.intro (by omega) ?_)
        first | with_reducible refine selP_ite h (by first | exact Iff.rfl | omega | (simp; done) | (simp [Pin.eqi, Edge.eqi, Arr3U8.eqi, Lattice.eqi]; done) | fail) ?_ ?_ | with_reducible refine selP_ite2 h (by first | exact Iff.rfl | omega | (simp; done) | (simp [Pin.eqi, Edge.eqi, Arr3U8.eqi, Lattice.eqi]; done) | fail) ?_ ?_ | with_reducible refine selP_ite h (by first | (simp only [Pin.eqi, Edge.eqi, Arr3U8.eqi, Lattice.eqi]; grind) | grind | fail) ?_ ?_ | with_reducible refine selP_ite2 h (by first | (simp only [Pin.eqi, Edge.eqi, Arr3U8.eqi, Lattice.eqi]; grind) | grind | fail) ?_ ?_
        · intro c_7 p_7 h
          refine go_skip ?_
          refine go_seq ?_
          refine go_block ?_
          refine go_seq ?_
          refine go_reg ?_
          obtain ⟨⟨c_9, c_10⟩, h⟩ := chk_elim h
          have k_11 := toNat_lt c_9 c_10
          obtain ⟨⟨c_13, c_14⟩, h⟩ := chk_elim h
          have k_15 := toNat_lt c_13 c_14
          try simp -implicitDefEqProofs [c_7, c_9, k_11, c_14, k_15]
          repeat (with_reducible refine And.intro (by omega) ?_)
          refine go_cond ?_
          try simp -implicitDefEqProofs
          repeat (with_reducible refine And.intro (by omega) ?_)
          first | with_reducible refine selP_ite h (by first | exact Iff.rfl | omega | (simp; done) | (simp [Edge.eqi]; done) | fail) ?_ ?_ | with_reducible refine selP_ite2 h (by first | exact Iff.rfl | omega | (simp; done) | (simp [Edge.eqi]; done) | fail) ?_ ?_ | with_reducible refine selP_ite h (by first | (simp only [Edge.eqi]; grind) | grind | fail) ?_ ?_ | with_reducible refine selP_ite2 h (by first | (simp only [Edge.eqi]; grind) | grind | fail) ?_ ?_
          · intro c_16 p_16 h
            refine go_skip ?_
            refine go_b ?_
            refine go_reg ?_
            obtain ⟨⟨c_18, c_19⟩, h⟩ := chk_elim h
            try simp -implicitDefEqProofs [c_18, c_19]
            repeat (with_reducible refine And.intro (by omega) ?_)
            refine go_l ?_
            exact hB _ _ (Option.some.inj h).symm (wkN_of 0 [] (by simp) (by simp) (by simp) (by simp) (by simp))
          · intro c_16 p_16 h
            refine go_seq ?_
            refine go_reg ?_
            try simp -implicitDefEqProofs
            repeat (with_reducible refine And.intro (by omega) ?_)
            obtain rfl := hR _ (Option.some.inj h).symm
            try dsimp only at hn_5
            have h := hn_5
            obtain rfl := Option.some.inj h
            refine go_ret ?_
            simp -implicitDefEqProofs
        · intro c_7 p_7 h
          refine go_exit ?_
          simp -implicitDefEqProofs
          exact hE _ _ (Option.some.inj h).symm (wkN_of 0 [] (by simp [c_7]) (by simp) (by simp) (by simp) (by simp))
  · intro v E h hJ
    try simp -implicitDefEqProofs
    repeat (with_reducible refine And.intro (by omega) ?_)
    first | with_reducible refine selP_ite h (by first | exact Iff.rfl | omega | (simp; done) | (simp [Pin.eqi, Edge.eqi, Arr3U8.eqi, Lattice.eqi]; done) | fail) ?_ ?_ | with_reducible refine selP_ite2 h (by first | exact Iff.rfl | omega | (simp; done) | (simp [Pin.eqi, Edge.eqi, Arr3U8.eqi, Lattice.eqi]; done) | fail) ?_ ?_ | with_reducible refine selP_ite h (by first | (simp only [Pin.eqi, Edge.eqi, Arr3U8.eqi, Lattice.eqi]; grind) | grind | fail) ?_ ?_ | with_reducible refine selP_ite2 h (by first | (simp only [Pin.eqi, Edge.eqi, Arr3U8.eqi, Lattice.eqi]; grind) | grind | fail) ?_ ?_
    · intro c_3 p_3 h
      try simp -implicitDefEqProofs [c_3]
      repeat (with_reducible refine And.intro (by omega) ?_)
      refine go_l ?_
      obtain rfl := Option.some.inj h
      exact hJ _ (wkN_of 0 [] (by simp [c_3]) (by simp [c_3]) (by simp) (by simp) (by simp))
    · intro c_3 p_3 h
      try simp -implicitDefEqProofs [c_3]
      repeat (with_reducible refine And.intro (by omega) ?_)
      refine go_l ?_
      obtain rfl := Option.some.inj h
      exact hJ _ (wkN_of 0 [] (by simp) (by simp) (by simp) (by simp) (by simp))
def ref18_Restrict_L1 (x0 : Lattice) (x1 : List Pin) (v6__2 : Int) : (Bool × Int) → Option ((Bool × Int) ⊕ Bool) := fun (v7__7, v8__8) =>
  if v8__8 < (x1.length : Int) then (
    (
      (
        if v7__7 = true then (
          chk (0 ≤ v6__2 ∧ v6__2 < (x0.Edges.length : Int)) <|
          chk (0 ≤ v8__8 ∧ v8__8 < (x1.length : Int)) <|
          (ref18_Against (at' x0.Edges v6__2) (at' x1 v8__8)).bind fun w36_22 =>
          some (!w36_22)
        ) else (
          some false
        )
      : Option (Bool))
    ).bind fun v7_11 =>
    chk (-9223372036854775808 ≤ v8__8 + 1 ∧ v8__8 + 1 ≤ 9223372036854775807) <|
    some (.inl (v7_11, v8__8 + 1))
  ) else (
    some (.inr v7__7)
  )
def ref18_Restrict_L2 (x0 : Lattice) (x1 : List Pin) : (Int × List Edge) → Option ((Int × List Edge) ⊕ ((List Edge))) := fun (v6__2, b2_1_3) =>
  if v6__2 < (x0.Edges.length : Int) then (
    (loop (ref18_Restrict_L1 x0 x1 v6__2) (true, 0)).bind fun v7_9 =>
    (
      (
        if v7_9 = true then (
          chk (0 ≤ v6__2 ∧ v6__2 < (x0.Edges.length : Int)) <|
          chk ((b2_1_3.length + ([at' x0.Edges v6__2] : List Edge).length) * 32 ≤ 140737488355328) <|
          some (b2_1_3 ++ [at' x0.Edges v6__2])
        ) else (
          some b2_1_3
        )
      : Option (List Edge))
    ).bind fun b2_1_26 =>
    chk (-9223372036854775808 ≤ v6__2 + 1 ∧ v6__2 + 1 ≤ 9223372036854775807) <|
    some (.inl (v6__2 + 1, b2_1_26))
  ) else (
    some (.inr b2_1_3)
  )
def ref18_Restrict (x0 : Lattice) (x1 : List Pin) : Option Lattice :=
  (loop (ref18_Restrict_L2 x0 x1) (0, [])).bind fun b2_1_4 =>
  some (⟨x0.N, b2_1_4⟩ : Lattice)
theorem link_ref18_Restrict {x0 : Lattice} {x1 : List Pin} {r : Lattice} (h : ref18_Restrict x0 x1 = some r) : PCalls Try.prog 17 [.agg (cLattice .lent x0), .sl 3 (mp cPin x1) .lent] (.agg (cLattice .none r)) := by
  unfold ref18_Restrict at h
  refine pcalls is17 na17 ?_
  try simp -implicitDefEqProofs
  refine go_seq ?_
  refine go_reg ?_
  try simp -implicitDefEqProofs
  repeat (with_reducible refine And.intro (by omega) ?_)
  refine go_seq ?_
  refine go_reg ?_
  try simp -implicitDefEqProofs
  repeat (with_reducible refine And.intro (by omega) ?_)
  refine go_seq ?_
  refine go_seq ?_
  refine go_reg ?_
  try simp -implicitDefEqProofs
  repeat (with_reducible refine And.intro (by omega) ?_)
  refine go_block ?_
  obtain ⟨rr_38, h, hn_1⟩ := bind_elim h
  refine go_loop (ε := List Edge) h 0 (fun e => e) (fun (v6__2, b2_1_3) => [(⟨.a, .a, .g⟩, .v (.int .i64 v6__2))]) (fun (v6__2, b2_1_3) => [[.v (.int .i64 x0.N), .sl 4 (mp cEdge x0.Edges) .lent], [.v (.int .i64 0), .sl 0 [] .full], [.v (.int .i64 x0.N), .sl 4 (mp cEdge b2_1_3) (.id 0)]]) (fun (v6__2, b2_1_3) => [(b2_1_3).length]) (fun b2_1_4 => []) (fun b2_1_4 => [[.v (.int .i64 x0.N), .sl 4 (mp cEdge x0.Edges) .lent], [.v (.int .i64 0), .sl 0 [] .full], [.v (.int .i64 x0.N), .sl 4 (mp cEdge b2_1_4) (.id 0)]]) (fun b2_1_4 => [(b2_1_4).length]) (wkN_of 0 [0] (by simp) (by simp) (by simp) (by simp) (by simp)) ?_ ?_
  · rintro b2_1_4 hq
    try simp -implicitDefEqProofs
    have h := hn_1
    rw [hq] at h
    try dsimp only at h
    refine go_seq ?_
    refine go_reg ?_
    try simp -implicitDefEqProofs
    repeat (with_reducible refine And.intro (by omega) ?_)
    obtain rfl := Option.some.inj h
    refine go_ret ?_
    simp -implicitDefEqProofs
  · rintro ⟨v6__2, b2_1_3⟩ o B' E' h hB hE hR
    simp only [ref18_Restrict_L2] at h
    simp -implicitDefEqProofs
    refine go_seq ?_
    refine go_seq ?_
    refine go_reg ?_
    try simp -implicitDefEqProofs
    repeat (with_reducible refine And.intro (by omega) ?_)
    refine go_cond ?_
    try simp -implicitDefEqProofs
    repeat (with_reducible refine And.intro (by omega) ?_)
    first | with_reducible refine selP_ite h (by first | exact Iff.rfl | omega | (simp; done) | (simp [Pin.eqi, Edge.eqi, Arr3U8.eqi, Lattice.eqi]; done) | fail) ?_ ?_ | with_reducible refine selP_ite2 h (by first | exact Iff.rfl | omega | (simp; done) | (simp [Pin.eqi, Edge.eqi, Arr3U8.eqi, Lattice.eqi]; done) | fail) ?_ ?_ | with_reducible refine selP_ite h (by first | (simp only [Pin.eqi, Edge.eqi, Arr3U8.eqi, Lattice.eqi]; grind) | grind | fail) ?_ ?_ | with_reducible refine selP_ite2 h (by first | (simp only [Pin.eqi, Edge.eqi, Arr3U8.eqi, Lattice.eqi]; grind) | grind | fail) ?_ ?_
    · intro c_5 p_5 h
      refine go_skip ?_
      refine go_seq ?_
      refine go_block ?_
      refine go_seq ?_
      refine go_reg ?_
      try simp -implicitDefEqProofs [c_5]
      repeat (with_reducible refine And.intro (by omega) ?_)
      refine go_seq ?_
      refine go_seq ?_
      refine go_reg ?_
      try simp -implicitDefEqProofs
      repeat (with_reducible refine And.intro (by omega) ?_)
      refine go_block ?_
      obtain ⟨rr_37, h, hn_6⟩ := bind_elim h
      refine go_loop (ε := Bool) h 2 (fun e => e) (fun (v7__7, v8__8) => [(⟨.a, .a, .h⟩, .v (.bool v7__7)), (⟨.a, .b, .a⟩, .v (.int .i64 v8__8))]) (fun (v7__7, v8__8) => [[.v (.int .i64 x0.N), .sl 4 (mp cEdge x0.Edges) .lent], [.v (.int .i64 0), .sl 0 [] .full], [.v (.int .i64 x0.N), .sl 4 (mp cEdge b2_1_3) (.id 0)]]) (fun (v7__7, v8__8) => [(b2_1_3).length]) (fun v7_9 => [(⟨.a, .a, .h⟩, .v (.bool v7_9))]) (fun v7_9 => [[.v (.int .i64 x0.N), .sl 4 (mp cEdge x0.Edges) .lent], [.v (.int .i64 0), .sl 0 [] .full], [.v (.int .i64 x0.N), .sl 4 (mp cEdge b2_1_3) (.id 0)]]) (fun v7_9 => [(b2_1_3).length]) (wkN_of 1 [] (by simp) (by simp) (by simp) (by simp) (by simp)) ?_ ?_
      · rintro v7_9 hq
        try simp -implicitDefEqProofs
        have h := hn_6
        rw [hq] at h
        try dsimp only at h
        refine go_seq ?_
        refine go_reg ?_
        try simp -implicitDefEqProofs
        repeat (with_reducible refine And.intro (by omega) ?_)
        refine go_join h [⟨.a, .f, .a⟩, ⟨.a, .f, .b⟩, ⟨.a, .f, .c⟩, ⟨.a, .f, .d⟩, ⟨.a, .f, .e⟩, ⟨.a, .f, .f⟩, ⟨.a, .f, .g⟩, ⟨.a, .f, .h⟩, ⟨.a, .g, .a⟩, ⟨.a, .g, .b⟩] (fun b2_1_26 => []) (fun b2_1_26 => [[.v (.int .i64 x0.N), .sl 4 (mp cEdge x0.Edges) .lent], [.v (.int .i64 0), .sl 0 [] .full], [.v (.int .i64 x0.N), .sl 4 (mp cEdge b2_1_26) (.id 0)]]) (fun b2_1_26 => [(b2_1_26).length]) (by repeat (first | exact soft_c | refine soft_b ?_)) ?_ ?_
        · rintro b2_1_26 h
          try dsimp only at h
          try simp -implicitDefEqProofs
          refine go_b ?_
          refine go_reg ?_
          obtain ⟨⟨c_35, c_36⟩, h⟩ := chk_elim h
          try simp -implicitDefEqProofs [c_35, c_36]
          repeat (with_reducible refine And.intro (by omega) ?_)
          refine go_l ?_
          exact hB _ _ (Option.some.inj h).symm (wkN_of 1 [] (by simp) (by simp) (by simp) (by simp) (by simp))
        · intro v E h hJ
          refine go_cond ?_
          try simp -implicitDefEqProofs
          repeat (with_reducible refine And.intro (by omega) ?_)
          first | with_reducible refine selP_ite h (by first | exact Iff.rfl | omega | (simp; done) | (simp [Pin.eqi, Edge.eqi, Arr3U8.eqi, Lattice.eqi]; done) | fail) ?_ ?_ | with_reducible refine selP_ite2 h (by first | exact Iff.rfl | omega | (simp; done) | (simp [Pin.eqi, Edge.eqi, Arr3U8.eqi, Lattice.eqi]; done) | fail) ?_ ?_ | with_reducible refine selP_ite h (by first | (simp only [Pin.eqi, Edge.eqi, Arr3U8.eqi, Lattice.eqi]; grind) | grind | fail) ?_ ?_ | with_reducible refine selP_ite2 h (by first | (simp only [Pin.eqi, Edge.eqi, Arr3U8.eqi, Lattice.eqi]; grind) | grind | fail) ?_ ?_
          · intro c_28 p_28 h
            refine go_reg ?_
            obtain ⟨⟨c_30, c_31⟩, h⟩ := chk_elim h
            have k_32 := toNat_lt c_30 c_31
            obtain ⟨c_33, h⟩ := chk_elim h
            try simp -implicitDefEqProofs [c_5, c_28, c_30, k_32]
            repeat (with_reducible refine And.intro (by omega) ?_)
            refine runR_apiT cEdge b2_1_3 [at' x0.Edges v6__2] (by first | rfl | simp) (elems_mp cEdge _ _ [at' x0.Edges v6__2] _) (by simp) c_33 ?_ (by decide)
            try simp -implicitDefEqProofs
            repeat (with_reducible refine And.intro (by omega) ?_)
            refine go_l ?_
            obtain rfl := Option.some.inj h
            exact hJ _ (wkN_of 1 [] (by simp [c_28]) (by simp [c_28]) (by simp) (by simp) (by simp))
          · intro c_28 p_28 h
            have q_28 := eq_false_of_ne_true c_28
            refine go_skip ?_
            refine go_l ?_
            obtain rfl := Option.some.inj h
            exact hJ _ (wkN_of 1 [] (by simp [c_28]) (by simp [c_28]) (by simp) (by simp) (by simp))
      · rintro ⟨v7__7, v8__8⟩ o B' E' h hB hE hR
        simp only [ref18_Restrict_L1] at h
        simp -implicitDefEqProofs
        refine go_seq ?_
        refine go_seq ?_
        refine go_reg ?_
        try simp -implicitDefEqProofs
        repeat (with_reducible refine And.intro (by omega) ?_)
        refine go_cond ?_
        try simp -implicitDefEqProofs
        repeat (with_reducible refine And.intro (by omega) ?_)
        first | with_reducible refine selP_ite h (by first | exact Iff.rfl | omega | (simp; done) | (simp [Pin.eqi, Edge.eqi, Arr3U8.eqi, Lattice.eqi]; done) | fail) ?_ ?_ | with_reducible refine selP_ite2 h (by first | exact Iff.rfl | omega | (simp; done) | (simp [Pin.eqi, Edge.eqi, Arr3U8.eqi, Lattice.eqi]; done) | fail) ?_ ?_ | with_reducible refine selP_ite h (by first | (simp only [Pin.eqi, Edge.eqi, Arr3U8.eqi, Lattice.eqi]; grind) | grind | fail) ?_ ?_ | with_reducible refine selP_ite2 h (by first | (simp only [Pin.eqi, Edge.eqi, Arr3U8.eqi, Lattice.eqi]; grind) | grind | fail) ?_ ?_
        · intro c_10 p_10 h
          refine go_skip ?_
          refine go_seq ?_
          refine go_block ?_
          refine go_reg ?_
          refine run_join h [⟨.a, .a, .h⟩, ⟨.a, .d, .b⟩, ⟨.a, .d, .c⟩, ⟨.a, .d, .d⟩, ⟨.a, .d, .e⟩, ⟨.a, .d, .f⟩, ⟨.a, .d, .g⟩, ⟨.a, .d, .h⟩, ⟨.a, .e, .a⟩, ⟨.a, .e, .b⟩, ⟨.a, .e, .c⟩, ⟨.a, .e, .d⟩, ⟨.a, .e, .e⟩, ⟨.a, .e, .f⟩, ⟨.a, .e, .g⟩] (fun v7_11 => [(⟨.a, .a, .h⟩, .v (.bool v7_11))]) (fun v7_11 => [[.v (.int .i64 x0.N), .sl 4 (mp cEdge x0.Edges) .lent], [.v (.int .i64 0), .sl 0 [] .full], [.v (.int .i64 x0.N), .sl 4 (mp cEdge b2_1_3) (.id 0)]]) (fun v7_11 => [(b2_1_3).length]) (by repeat (first | exact soft_c | refine soft_b ?_)) ?_ ?_
          · rintro v7_11 h
            try dsimp only at h
            try simp -implicitDefEqProofs
            refine go_b ?_
            refine go_reg ?_
            obtain ⟨⟨c_24, c_25⟩, h⟩ := chk_elim h
            try simp -implicitDefEqProofs [c_10, c_24, c_25]
            repeat (with_reducible refine And.intro (by omega) ?_)
            refine go_l ?_
            exact hB _ _ (Option.some.inj h).symm (wkN_of 1 [] (by simp) (by simp) (by simp) (by simp) (by simp))
          · intro v E h hJ
            try simp -implicitDefEqProofs [c_10]
            repeat (with_reducible refine And.intro (by omega) ?_)
            first | with_reducible refine selP_ite h (by first | exact Iff.rfl | omega | (simp; done) | (simp [Pin.eqi, Edge.eqi, Arr3U8.eqi, Lattice.eqi]; done) | fail) ?_ ?_ | with_reducible refine selP_ite2 h (by first | exact Iff.rfl | omega | (simp; done) | (simp [Pin.eqi, Edge.eqi, Arr3U8.eqi, Lattice.eqi]; done) | fail) ?_ ?_ | with_reducible refine selP_ite h (by first | (simp only [Pin.eqi, Edge.eqi, Arr3U8.eqi, Lattice.eqi]; grind) | grind | fail) ?_ ?_ | with_reducible refine selP_ite2 h (by first | (simp only [Pin.eqi, Edge.eqi, Arr3U8.eqi, Lattice.eqi]; grind) | grind | fail) ?_ ?_
            · intro c_13 p_13 h
              obtain ⟨⟨c_15, c_16⟩, h⟩ := chk_elim h
              have k_17 := toNat_lt c_15 c_16
              obtain ⟨⟨c_19, c_20⟩, h⟩ := chk_elim h
              have k_21 := toNat_lt c_19 c_20
              obtain ⟨w36_22, hc, h⟩ := bind_elim h
              try simp -implicitDefEqProofs [c_10, c_13, c_15, c_16, k_17, c_19, k_21]
              repeat (with_reducible refine And.intro (by omega) ?_)
              refine runC_t (link_ref18_Against hc) (by simp) ?_
              try simp -implicitDefEqProofs
              repeat (with_reducible refine And.intro (by omega) ?_)
              refine go_l ?_
              obtain rfl := Option.some.inj h
              exact hJ _ (wkN_of 1 [] (by simp [c_10, c_13]) (by simp [c_10, c_13]) (by simp) (by simp) (by simp))
            · intro c_13 p_13 h
              have q_13 := eq_false_of_ne_true c_13
              try simp -implicitDefEqProofs [q_13]
              repeat (with_reducible refine And.intro (by omega) ?_)
              refine go_l ?_
              obtain rfl := Option.some.inj h
              exact hJ _ (wkN_of 1 [] (by simp [c_10, c_13]) (by simp [c_10, c_13]) (by simp) (by simp) (by simp))
        · intro c_10 p_10 h
          refine go_exit ?_
          simp -implicitDefEqProofs
          exact hE _ _ (Option.some.inj h).symm (wkN_of 1 [] (by simp [c_10]) (by simp) (by simp) (by simp) (by simp))
    · intro c_5 p_5 h
      refine go_exit ?_
      simp -implicitDefEqProofs
      exact hE _ _ (Option.some.inj h).symm (wkN_of 1 [] (by simp [c_5]) (by simp) (by simp) (by simp) (by simp))
def ref18_Insert_L1 (x0 : List Pin) (x1 : Int) : (List Pin × Int) → Option ((List Pin × Int) ⊕ ((List Pin))) := fun (v5__2, v6__3) =>
  if v6__3 < (x0.length : Int) then (
    chk (0 ≤ v6__3 ∧ v6__3 < (x0.length : Int)) <|
    ((
      if x1 ≤ (at' x0 v6__3).From then (
        chk (-9223372036854775808 ≤ ((at' x0 v6__3).From) + 1 ∧ ((at' x0 v6__3).From) + 1 ≤ 9223372036854775807) <|
        chk (-9223372036854775808 ≤ ((at' x0 v6__3).To) + 1 ∧ ((at' x0 v6__3).To) + 1 ≤ 9223372036854775807) <|
        some (.inr (((at' x0 v6__3).From) + 1, ((at' x0 v6__3).To) + 1))
      ) else (
        if x1 < (at' x0 v6__3).To then (
          chk (-9223372036854775808 ≤ v6__3 + 1 ∧ v6__3 + 1 ≤ 9223372036854775807) <|
          some (.inl (.inl (v5__2, v6__3 + 1)))
        ) else (
          some (.inr ((at' x0 v6__3).From, (at' x0 v6__3).To))
        )
      )
    ) : Option (((List Pin × Int) ⊕ ((List Pin))) ⊕ (Int × Int))).bind fun
    | .inl e => some e
    | .inr (b0_0_10, b0_1_11) =>
    chk ((v5__2.length + ([(⟨b0_0_10, b0_1_11, (at' x0 v6__3).Word⟩ : Pin)] : List Pin).length) * 24 ≤ 140737488355328) <|
    chk (-9223372036854775808 ≤ v6__3 + 1 ∧ v6__3 + 1 ≤ 9223372036854775807) <|
    some (.inl (v5__2 ++ [(⟨b0_0_10, b0_1_11, (at' x0 v6__3).Word⟩ : Pin)], v6__3 + 1))
  ) else (
    some (.inr v5__2)
  )
def ref18_Insert (x0 : List Pin) (x1 : Int) : Option (List Pin) :=
  (loop (ref18_Insert_L1 x0 x1) ([], 0)).bind fun v5_4 =>
  some v5_4
theorem link_ref18_Insert {x0 : List Pin} {x1 : Int} {r : List Pin} (h : ref18_Insert x0 x1 = some r) : PCalls Try.prog 19 [.sl 3 (mp cPin x0) .lent, .v (.int .i64 x1)] (.sl 3 (mp cPin r) .none) := by
  unfold ref18_Insert at h
  refine pcalls is19 na19 ?_
  try simp -implicitDefEqProofs
  refine go_seq ?_
  refine go_reg ?_
  try simp -implicitDefEqProofs
  repeat (with_reducible refine And.intro (by omega) ?_)
  refine go_seq ?_
  refine go_reg ?_
  try simp -implicitDefEqProofs
  repeat (with_reducible refine And.intro (by omega) ?_)
  refine go_seq ?_
  refine go_seq ?_
  refine go_reg ?_
  try simp -implicitDefEqProofs
  repeat (with_reducible refine And.intro (by omega) ?_)
  refine go_block ?_
  obtain ⟨rr_28, h, hn_1⟩ := bind_elim h
  refine go_loop (ε := List Pin) h 0 (fun e => e) (fun (v5__2, v6__3) => [(⟨.a, .a, .f⟩, .sl 3 (mp cPin v5__2) (.id 0)), (⟨.a, .a, .g⟩, .v (.int .i64 v6__3))]) (fun (v5__2, v6__3) => []) (fun (v5__2, v6__3) => [(v5__2).length]) (fun v5_4 => [(⟨.a, .a, .f⟩, .sl 3 (mp cPin v5_4) (.id 0))]) (fun v5_4 => []) (fun v5_4 => [(v5_4).length]) (wkN_of 0 [0] (by simp) (by simp) (by simp) (by simp) (by simp)) ?_ ?_
  · rintro v5_4 hq
    try simp -implicitDefEqProofs
    have h := hn_1
    rw [hq] at h
    try dsimp only at h
    refine go_seq ?_
    refine go_reg ?_
    try simp -implicitDefEqProofs
    repeat (with_reducible refine And.intro (by omega) ?_)
    obtain rfl := Option.some.inj h
    refine go_ret ?_
    simp -implicitDefEqProofs
  · rintro ⟨v5__2, v6__3⟩ o B' E' h hB hE hR
    simp only [ref18_Insert_L1] at h
    simp -implicitDefEqProofs
    refine go_seq ?_
    refine go_seq ?_
    refine go_reg ?_
    try simp -implicitDefEqProofs
    repeat (with_reducible refine And.intro (by omega) ?_)
    refine go_cond ?_
    try simp -implicitDefEqProofs
    repeat (with_reducible refine And.intro (by omega) ?_)
    first | with_reducible refine selP_ite h (by first | exact Iff.rfl | omega | (simp; done) | (simp [Pin.eqi, Edge.eqi, Arr3U8.eqi, Lattice.eqi]; done) | fail) ?_ ?_ | with_reducible refine selP_ite2 h (by first | exact Iff.rfl | omega | (simp; done) | (simp [Pin.eqi, Edge.eqi, Arr3U8.eqi, Lattice.eqi]; done) | fail) ?_ ?_ | with_reducible refine selP_ite h (by first | (simp only [Pin.eqi, Edge.eqi, Arr3U8.eqi, Lattice.eqi]; grind) | grind | fail) ?_ ?_ | with_reducible refine selP_ite2 h (by first | (simp only [Pin.eqi, Edge.eqi, Arr3U8.eqi, Lattice.eqi]; grind) | grind | fail) ?_ ?_
    · intro c_5 p_5 h
      refine go_skip ?_
      refine go_seq ?_
      refine go_block ?_
      refine go_seq ?_
      refine go_reg ?_
      obtain ⟨⟨c_7, c_8⟩, h⟩ := chk_elim h
      have k_9 := toNat_lt c_7 c_8
      try simp -implicitDefEqProofs [c_5, c_7, k_9]
      repeat (with_reducible refine And.intro (by omega) ?_)
      refine go_seq ?_
      refine go_seq ?_
      refine go_reg ?_
      try simp -implicitDefEqProofs
      repeat (with_reducible refine And.intro (by omega) ?_)
      refine go_join2 h [⟨.a, .c, .h⟩, ⟨.a, .d, .a⟩, ⟨.a, .d, .b⟩, ⟨.a, .d, .c⟩, ⟨.a, .d, .d⟩, ⟨.a, .d, .e⟩, ⟨.a, .d, .f⟩, ⟨.a, .d, .g⟩, ⟨.a, .d, .h⟩, ⟨.a, .e, .a⟩, ⟨.a, .e, .b⟩, ⟨.a, .e, .c⟩] (fun (b0_0_10, b0_1_11) => []) (fun (b0_0_10, b0_1_11) => [[.v (.int .i64 b0_0_10), .v (.int .i64 b0_1_11), .v (.int .i64 ((at' x0 v6__3).Word))]]) (fun (b0_0_10, b0_1_11) => [(v5__2).length]) (by repeat (first | exact soft_c | refine soft_b ?_)) ?_ ?_
      · rintro ⟨b0_0_10, b0_1_11⟩ h
        try dsimp only at h
        try simp -implicitDefEqProofs
        refine go_reg ?_
        obtain ⟨c_24, h⟩ := chk_elim h
        try simp -implicitDefEqProofs
        repeat (with_reducible refine And.intro (by omega) ?_)
        refine runR_apiT cPin v5__2 [(⟨b0_0_10, b0_1_11, (at' x0 v6__3).Word⟩ : Pin)] (by first | rfl | simp) (elems_mp cPin _ _ [(⟨b0_0_10, b0_1_11, (at' x0 v6__3).Word⟩ : Pin)] _) (by simp) c_24 ?_ (by decide)
        try simp -implicitDefEqProofs
        repeat (with_reducible refine And.intro (by omega) ?_)
        refine go_b ?_
        refine go_reg ?_
        obtain ⟨⟨c_26, c_27⟩, h⟩ := chk_elim h
        try simp -implicitDefEqProofs [c_26, c_27]
        repeat (with_reducible refine And.intro (by omega) ?_)
        refine go_l ?_
        exact hB _ _ (Option.some.inj h).symm (wkN_of 1 [] (by simp) (by simp) (by simp) (by simp) (by simp))
      · intro o E h hk_12 hJ
        refine go_cond ?_
        try simp -implicitDefEqProofs
        repeat (with_reducible refine And.intro (by omega) ?_)
        first | with_reducible refine selP_ite h (by first | exact Iff.rfl | omega | (simp; done) | (simp [Pin.eqi, Edge.eqi, Arr3U8.eqi, Lattice.eqi]; done) | fail) ?_ ?_ | with_reducible refine selP_ite2 h (by first | exact Iff.rfl | omega | (simp; done) | (simp [Pin.eqi, Edge.eqi, Arr3U8.eqi, Lattice.eqi]; done) | fail) ?_ ?_ | with_reducible refine selP_ite h (by first | (simp only [Pin.eqi, Edge.eqi, Arr3U8.eqi, Lattice.eqi]; grind) | grind | fail) ?_ ?_ | with_reducible refine selP_ite2 h (by first | (simp only [Pin.eqi, Edge.eqi, Arr3U8.eqi, Lattice.eqi]; grind) | grind | fail) ?_ ?_
        · intro c_13 p_13 h
          refine go_seq ?_
          refine go_reg ?_
          obtain ⟨⟨c_15, c_16⟩, h⟩ := chk_elim h
          try simp -implicitDefEqProofs [c_13, c_15, c_16]
          repeat (with_reducible refine And.intro (by omega) ?_)
          refine go_reg ?_
          obtain ⟨⟨c_18, c_19⟩, h⟩ := chk_elim h
          try simp -implicitDefEqProofs [c_18, c_19]
          repeat (with_reducible refine And.intro (by omega) ?_)
          refine go_l ?_
          obtain rfl := Option.some.inj h
          exact hJ _ _ rfl (wkN_of 1 [] (by simp [c_13]) (by simp [c_13]) (by simp) (by simp) (by simp))
        · intro c_13 p_13 h
          refine go_seq ?_
          refine go_reg ?_
          try simp -implicitDefEqProofs [c_13]
          repeat (with_reducible refine And.intro (by omega) ?_)
          refine go_cond ?_
          try simp -implicitDefEqProofs
          repeat (with_reducible refine And.intro (by omega) ?_)
          first | with_reducible refine selP_ite h (by first | exact Iff.rfl | omega | (simp; done) | (simp [Pin.eqi, Edge.eqi, Arr3U8.eqi, Lattice.eqi]; done) | fail) ?_ ?_ | with_reducible refine selP_ite2 h (by first | exact Iff.rfl | omega | (simp; done) | (simp [Pin.eqi, Edge.eqi, Arr3U8.eqi, Lattice.eqi]; done) | fail) ?_ ?_ | with_reducible refine selP_ite h (by first | (simp only [Pin.eqi, Edge.eqi, Arr3U8.eqi, Lattice.eqi]; grind) | grind | fail) ?_ ?_ | with_reducible refine selP_ite2 h (by first | (simp only [Pin.eqi, Edge.eqi, Arr3U8.eqi, Lattice.eqi]; grind) | grind | fail) ?_ ?_
          · intro c_20 p_20 h
            refine go_exit ?_
            simp -implicitDefEqProofs
            refine go_reg ?_
            obtain ⟨⟨c_22, c_23⟩, h⟩ := chk_elim h
            try simp -implicitDefEqProofs [c_20, c_22, c_23]
            repeat (with_reducible refine And.intro (by omega) ?_)
            refine go_l ?_
            obtain rfl := Option.some.inj h
            have h := hk_12
            try dsimp only at h
            exact hB _ _ (Option.some.inj h).symm (wkN_of 1 [] (by simp) (by simp) (by simp) (by simp) (by simp))
          · intro c_20 p_20 h
            refine go_skip ?_
            refine go_l ?_
            obtain rfl := Option.some.inj h
            exact hJ _ _ rfl (wkN_of 1 [] (by simp [c_13, c_20]) (by simp [c_13]) (by simp) (by simp) (by simp))
    · intro c_5 p_5 h
      refine go_exit ?_
      simp -implicitDefEqProofs
      exact hE _ _ (Option.some.inj h).symm (wkN_of 1 [] (by simp [c_5]) (by simp) (by simp) (by simp) (by simp))
def ref18_Delete_L1 (x0 : List Pin) (x1 : Int) : (List Pin × Int) → Option ((List Pin × Int) ⊕ ((List Pin))) := fun (v5__2, v6__3) =>
  if v6__3 < (x0.length : Int) then (
    chk (0 ≤ v6__3 ∧ v6__3 < (x0.length : Int)) <|
    ((
      if x1 < (at' x0 v6__3).From then (
        chk (-9223372036854775808 ≤ ((at' x0 v6__3).From) - 1 ∧ ((at' x0 v6__3).From) - 1 ≤ 9223372036854775807) <|
        chk (-9223372036854775808 ≤ ((at' x0 v6__3).To) - 1 ∧ ((at' x0 v6__3).To) - 1 ≤ 9223372036854775807) <|
        some (.inr (((at' x0 v6__3).From) - 1, ((at' x0 v6__3).To) - 1))
      ) else (
        if x1 < (at' x0 v6__3).To then (
          chk (-9223372036854775808 ≤ v6__3 + 1 ∧ v6__3 + 1 ≤ 9223372036854775807) <|
          some (.inl (.inl (v5__2, v6__3 + 1)))
        ) else (
          some (.inr ((at' x0 v6__3).From, (at' x0 v6__3).To))
        )
      )
    ) : Option (((List Pin × Int) ⊕ ((List Pin))) ⊕ (Int × Int))).bind fun
    | .inl e => some e
    | .inr (b0_0_10, b0_1_11) =>
    chk ((v5__2.length + ([(⟨b0_0_10, b0_1_11, (at' x0 v6__3).Word⟩ : Pin)] : List Pin).length) * 24 ≤ 140737488355328) <|
    chk (-9223372036854775808 ≤ v6__3 + 1 ∧ v6__3 + 1 ≤ 9223372036854775807) <|
    some (.inl (v5__2 ++ [(⟨b0_0_10, b0_1_11, (at' x0 v6__3).Word⟩ : Pin)], v6__3 + 1))
  ) else (
    some (.inr v5__2)
  )
def ref18_Delete (x0 : List Pin) (x1 : Int) : Option (List Pin) :=
  (loop (ref18_Delete_L1 x0 x1) ([], 0)).bind fun v5_4 =>
  some v5_4
theorem link_ref18_Delete {x0 : List Pin} {x1 : Int} {r : List Pin} (h : ref18_Delete x0 x1 = some r) : PCalls Try.prog 21 [.sl 3 (mp cPin x0) .lent, .v (.int .i64 x1)] (.sl 3 (mp cPin r) .none) := by
  unfold ref18_Delete at h
  refine pcalls is21 na21 ?_
  try simp -implicitDefEqProofs
  refine go_seq ?_
  refine go_reg ?_
  try simp -implicitDefEqProofs
  repeat (with_reducible refine And.intro (by omega) ?_)
  refine go_seq ?_
  refine go_reg ?_
  try simp -implicitDefEqProofs
  repeat (with_reducible refine And.intro (by omega) ?_)
  refine go_seq ?_
  refine go_seq ?_
  refine go_reg ?_
  try simp -implicitDefEqProofs
  repeat (with_reducible refine And.intro (by omega) ?_)
  refine go_block ?_
  obtain ⟨rr_28, h, hn_1⟩ := bind_elim h
  refine go_loop (ε := List Pin) h 0 (fun e => e) (fun (v5__2, v6__3) => [(⟨.a, .a, .f⟩, .sl 3 (mp cPin v5__2) (.id 0)), (⟨.a, .a, .g⟩, .v (.int .i64 v6__3))]) (fun (v5__2, v6__3) => []) (fun (v5__2, v6__3) => [(v5__2).length]) (fun v5_4 => [(⟨.a, .a, .f⟩, .sl 3 (mp cPin v5_4) (.id 0))]) (fun v5_4 => []) (fun v5_4 => [(v5_4).length]) (wkN_of 0 [0] (by simp) (by simp) (by simp) (by simp) (by simp)) ?_ ?_
  · rintro v5_4 hq
    try simp -implicitDefEqProofs
    have h := hn_1
    rw [hq] at h
    try dsimp only at h
    refine go_seq ?_
    refine go_reg ?_
    try simp -implicitDefEqProofs
    repeat (with_reducible refine And.intro (by omega) ?_)
    obtain rfl := Option.some.inj h
    refine go_ret ?_
    simp -implicitDefEqProofs
  · rintro ⟨v5__2, v6__3⟩ o B' E' h hB hE hR
    simp only [ref18_Delete_L1] at h
    simp -implicitDefEqProofs
    refine go_seq ?_
    refine go_seq ?_
    refine go_reg ?_
    try simp -implicitDefEqProofs
    repeat (with_reducible refine And.intro (by omega) ?_)
    refine go_cond ?_
    try simp -implicitDefEqProofs
    repeat (with_reducible refine And.intro (by omega) ?_)
    first | with_reducible refine selP_ite h (by first | exact Iff.rfl | omega | (simp; done) | (simp [Pin.eqi, Edge.eqi, Arr3U8.eqi, Lattice.eqi]; done) | fail) ?_ ?_ | with_reducible refine selP_ite2 h (by first | exact Iff.rfl | omega | (simp; done) | (simp [Pin.eqi, Edge.eqi, Arr3U8.eqi, Lattice.eqi]; done) | fail) ?_ ?_ | with_reducible refine selP_ite h (by first | (simp only [Pin.eqi, Edge.eqi, Arr3U8.eqi, Lattice.eqi]; grind) | grind | fail) ?_ ?_ | with_reducible refine selP_ite2 h (by first | (simp only [Pin.eqi, Edge.eqi, Arr3U8.eqi, Lattice.eqi]; grind) | grind | fail) ?_ ?_
    · intro c_5 p_5 h
      refine go_skip ?_
      refine go_seq ?_
      refine go_block ?_
      refine go_seq ?_
      refine go_reg ?_
      obtain ⟨⟨c_7, c_8⟩, h⟩ := chk_elim h
      have k_9 := toNat_lt c_7 c_8
      try simp -implicitDefEqProofs [c_5, c_7, k_9]
      repeat (with_reducible refine And.intro (by omega) ?_)
      refine go_seq ?_
      refine go_seq ?_
      refine go_reg ?_
      try simp -implicitDefEqProofs
      repeat (with_reducible refine And.intro (by omega) ?_)
      refine go_join2 h [⟨.a, .c, .h⟩, ⟨.a, .d, .a⟩, ⟨.a, .d, .b⟩, ⟨.a, .d, .c⟩, ⟨.a, .d, .d⟩, ⟨.a, .d, .e⟩, ⟨.a, .d, .f⟩, ⟨.a, .d, .g⟩, ⟨.a, .d, .h⟩, ⟨.a, .e, .a⟩, ⟨.a, .e, .b⟩, ⟨.a, .e, .c⟩] (fun (b0_0_10, b0_1_11) => []) (fun (b0_0_10, b0_1_11) => [[.v (.int .i64 b0_0_10), .v (.int .i64 b0_1_11), .v (.int .i64 ((at' x0 v6__3).Word))]]) (fun (b0_0_10, b0_1_11) => [(v5__2).length]) (by repeat (first | exact soft_c | refine soft_b ?_)) ?_ ?_
      · rintro ⟨b0_0_10, b0_1_11⟩ h
        try dsimp only at h
        try simp -implicitDefEqProofs
        refine go_reg ?_
        obtain ⟨c_24, h⟩ := chk_elim h
        try simp -implicitDefEqProofs
        repeat (with_reducible refine And.intro (by omega) ?_)
        refine runR_apiT cPin v5__2 [(⟨b0_0_10, b0_1_11, (at' x0 v6__3).Word⟩ : Pin)] (by first | rfl | simp) (elems_mp cPin _ _ [(⟨b0_0_10, b0_1_11, (at' x0 v6__3).Word⟩ : Pin)] _) (by simp) c_24 ?_ (by decide)
        try simp -implicitDefEqProofs
        repeat (with_reducible refine And.intro (by omega) ?_)
        refine go_b ?_
        refine go_reg ?_
        obtain ⟨⟨c_26, c_27⟩, h⟩ := chk_elim h
        try simp -implicitDefEqProofs [c_26, c_27]
        repeat (with_reducible refine And.intro (by omega) ?_)
        refine go_l ?_
        exact hB _ _ (Option.some.inj h).symm (wkN_of 1 [] (by simp) (by simp) (by simp) (by simp) (by simp))
      · intro o E h hk_12 hJ
        refine go_cond ?_
        try simp -implicitDefEqProofs
        repeat (with_reducible refine And.intro (by omega) ?_)
        first | with_reducible refine selP_ite h (by first | exact Iff.rfl | omega | (simp; done) | (simp [Pin.eqi, Edge.eqi, Arr3U8.eqi, Lattice.eqi]; done) | fail) ?_ ?_ | with_reducible refine selP_ite2 h (by first | exact Iff.rfl | omega | (simp; done) | (simp [Pin.eqi, Edge.eqi, Arr3U8.eqi, Lattice.eqi]; done) | fail) ?_ ?_ | with_reducible refine selP_ite h (by first | (simp only [Pin.eqi, Edge.eqi, Arr3U8.eqi, Lattice.eqi]; grind) | grind | fail) ?_ ?_ | with_reducible refine selP_ite2 h (by first | (simp only [Pin.eqi, Edge.eqi, Arr3U8.eqi, Lattice.eqi]; grind) | grind | fail) ?_ ?_
        · intro c_13 p_13 h
          refine go_seq ?_
          refine go_reg ?_
          obtain ⟨⟨c_15, c_16⟩, h⟩ := chk_elim h
          try simp -implicitDefEqProofs [c_13, c_15, c_16]
          repeat (with_reducible refine And.intro (by omega) ?_)
          refine go_reg ?_
          obtain ⟨⟨c_18, c_19⟩, h⟩ := chk_elim h
          try simp -implicitDefEqProofs [c_18, c_19]
          repeat (with_reducible refine And.intro (by omega) ?_)
          refine go_l ?_
          obtain rfl := Option.some.inj h
          exact hJ _ _ rfl (wkN_of 1 [] (by simp [c_13]) (by simp [c_13]) (by simp) (by simp) (by simp))
        · intro c_13 p_13 h
          refine go_seq ?_
          refine go_reg ?_
          try simp -implicitDefEqProofs [c_13]
          repeat (with_reducible refine And.intro (by omega) ?_)
          refine go_cond ?_
          try simp -implicitDefEqProofs
          repeat (with_reducible refine And.intro (by omega) ?_)
          first | with_reducible refine selP_ite h (by first | exact Iff.rfl | omega | (simp; done) | (simp [Pin.eqi, Edge.eqi, Arr3U8.eqi, Lattice.eqi]; done) | fail) ?_ ?_ | with_reducible refine selP_ite2 h (by first | exact Iff.rfl | omega | (simp; done) | (simp [Pin.eqi, Edge.eqi, Arr3U8.eqi, Lattice.eqi]; done) | fail) ?_ ?_ | with_reducible refine selP_ite h (by first | (simp only [Pin.eqi, Edge.eqi, Arr3U8.eqi, Lattice.eqi]; grind) | grind | fail) ?_ ?_ | with_reducible refine selP_ite2 h (by first | (simp only [Pin.eqi, Edge.eqi, Arr3U8.eqi, Lattice.eqi]; grind) | grind | fail) ?_ ?_
          · intro c_20 p_20 h
            refine go_exit ?_
            simp -implicitDefEqProofs
            refine go_reg ?_
            obtain ⟨⟨c_22, c_23⟩, h⟩ := chk_elim h
            try simp -implicitDefEqProofs [c_20, c_22, c_23]
            repeat (with_reducible refine And.intro (by omega) ?_)
            refine go_l ?_
            obtain rfl := Option.some.inj h
            have h := hk_12
            try dsimp only at h
            exact hB _ _ (Option.some.inj h).symm (wkN_of 1 [] (by simp) (by simp) (by simp) (by simp) (by simp))
          · intro c_20 p_20 h
            refine go_skip ?_
            refine go_l ?_
            obtain rfl := Option.some.inj h
            exact hJ _ _ rfl (wkN_of 1 [] (by simp [c_13, c_20]) (by simp [c_13]) (by simp) (by simp) (by simp))
    · intro c_5 p_5 h
      refine go_exit ?_
      simp -implicitDefEqProofs
      exact hE _ _ (Option.some.inj h).symm (wkN_of 1 [] (by simp [c_5]) (by simp) (by simp) (by simp) (by simp))
def ref18_Lattice_L1 (x0 : List Arr3U8) (x1 : Int) (v6__2 : Int) (v7__10 : Int) (v8__15 : Int) : (Bool × Int) → Option ((Bool × Int) ⊕ Bool) := fun (v9__20, v10__21) =>
  (
    (
      if v10__21 < (x0.length : Int) then (
        some (decide (v10__21 < 14))
      ) else (
        some false
      )
    : Option (Bool))
  ).bind fun v37_23 =>
  if v37_23 = true then (
    chk (0 ≤ v10__21 ∧ v10__21 < (x0.length : Int)) <|
    (ref18_Pin (at' x0 v10__21) x1).bind fun w45_31 =>
    (
      (
        if v9__20 = true then (
          some true
        ) else (
          if w45_31.From = v6__2 then (
            if w45_31.To = v7__10 then (
              some (decide (rem (((at' x0 v10__21).x2).toNat : Int) 3 = v8__15))
            ) else (
              some false
            )
          ) else (
            some false
          )
        )
      : Option (Bool))
    ).bind fun v9_32 =>
    chk (-9223372036854775808 ≤ v10__21 + 1 ∧ v10__21 + 1 ≤ 9223372036854775807) <|
    some (.inl (v9_32, v10__21 + 1))
  ) else (
    some (.inr v9__20)
  )
def ref18_Lattice_L2 (x0 : List Arr3U8) (x1 : Int) (v6__2 : Int) (v7__10 : Int) : (Int × List Edge) → Option ((Int × List Edge) ⊕ ((List Edge))) := fun (v8__15, b1_1_16) =>
  if v8__15 < 3 then (
    (loop (ref18_Lattice_L1 x0 x1 v6__2 v7__10 v8__15) (false, 0)).bind fun v9_22 =>
    (
      (
        if v9_22 = true then (
          chk (-9223372036854775808 ≤ v6__2 + v8__15 ∧ v6__2 + v8__15 ≤ 9223372036854775807) <|
          chk ((b1_1_16.length + ([(⟨v6__2, v7__10, v8__15, v6__2 + v8__15⟩ : Edge)] : List Edge).length) * 32 ≤ 140737488355328) <|
          some (b1_1_16 ++ [(⟨v6__2, v7__10, v8__15, v6__2 + v8__15⟩ : Edge)])
        ) else (
          some b1_1_16
        )
      : Option (List Edge))
    ).bind fun b1_1_40 =>
    chk (-9223372036854775808 ≤ v8__15 + 1 ∧ v8__15 + 1 ≤ 9223372036854775807) <|
    some (.inl (v8__15 + 1, b1_1_40))
  ) else (
    some (.inr b1_1_16)
  )
def ref18_Lattice_L3 (x0 : List Arr3U8) (x1 : Int) (v6__2 : Int) : (Int × List Edge) → Option ((Int × List Edge) ⊕ ((List Edge))) := fun (v7__10, b1_1_11) =>
  if v7__10 ≤ x1 then (
    (loop (ref18_Lattice_L2 x0 x1 v6__2 v7__10) (0, b1_1_11)).bind fun b1_1_17 =>
    chk (-9223372036854775808 ≤ v7__10 + 1 ∧ v7__10 + 1 ≤ 9223372036854775807) <|
    some (.inl (v7__10 + 1, b1_1_17))
  ) else (
    some (.inr b1_1_11)
  )
def ref18_Lattice_L4 (x0 : List Arr3U8) (x1 : Int) : (Int × List Edge) → Option ((Int × List Edge) ⊕ ((List Edge))) := fun (v6__2, b1_1_3) =>
  if v6__2 < x1 then (
    chk (-9223372036854775808 ≤ v6__2 + 1 ∧ v6__2 + 1 ≤ 9223372036854775807) <|
    (loop (ref18_Lattice_L3 x0 x1 v6__2) (v6__2 + 1, b1_1_3)).bind fun b1_1_12 =>
    some (.inl (v6__2 + 1, b1_1_12))
  ) else (
    some (.inr b1_1_3)
  )
def ref18_Lattice (x0 : List Arr3U8) (x1 : Int) : Option Lattice :=
  (loop (ref18_Lattice_L4 x0 x1) (0, [])).bind fun b1_1_4 =>
  some (⟨x1, b1_1_4⟩ : Lattice)
theorem link_ref18_Lattice {x0 : List Arr3U8} {x1 : Int} {r : Lattice} (h : ref18_Lattice x0 x1 = some r) : PCalls Try.prog 11 [.sl 3 (mp cArr3U8 x0) .lent, .v (.int .i64 x1)] (.agg (cLattice .none r)) := by
  unfold ref18_Lattice at h
  refine pcalls is11 na11 ?_
  try simp -implicitDefEqProofs
  refine go_seq ?_
  refine go_reg ?_
  try simp -implicitDefEqProofs
  repeat (with_reducible refine And.intro (by omega) ?_)
  refine go_seq ?_
  refine go_reg ?_
  try simp -implicitDefEqProofs
  repeat (with_reducible refine And.intro (by omega) ?_)
  refine go_seq ?_
  refine go_seq ?_
  refine go_reg ?_
  try simp -implicitDefEqProofs
  repeat (with_reducible refine And.intro (by omega) ?_)
  refine go_block ?_
  obtain ⟨rr_56, h, hn_1⟩ := bind_elim h
  refine go_loop (ε := List Edge) h 0 (fun e => e) (fun (v6__2, b1_1_3) => [(⟨.a, .a, .g⟩, .v (.int .i64 v6__2))]) (fun (v6__2, b1_1_3) => [[.v (.int .i64 0), .sl 0 [] .full], [.v (.int .i64 x1), .sl 4 (mp cEdge b1_1_3) (.id 0)]]) (fun (v6__2, b1_1_3) => [(b1_1_3).length]) (fun b1_1_4 => []) (fun b1_1_4 => [[.v (.int .i64 0), .sl 0 [] .full], [.v (.int .i64 x1), .sl 4 (mp cEdge b1_1_4) (.id 0)]]) (fun b1_1_4 => [(b1_1_4).length]) (wkN_of 0 [0] (by simp) (by simp) (by simp) (by simp) (by simp)) ?_ ?_
  · rintro b1_1_4 hq
    try simp -implicitDefEqProofs
    have h := hn_1
    rw [hq] at h
    try dsimp only at h
    refine go_seq ?_
    refine go_reg ?_
    try simp -implicitDefEqProofs
    repeat (with_reducible refine And.intro (by omega) ?_)
    obtain rfl := Option.some.inj h
    refine go_ret ?_
    simp -implicitDefEqProofs
  · rintro ⟨v6__2, b1_1_3⟩ o B' E' h hB hE hR
    simp only [ref18_Lattice_L4] at h
    simp -implicitDefEqProofs
    refine go_seq ?_
    refine go_seq ?_
    refine go_reg ?_
    try simp -implicitDefEqProofs
    repeat (with_reducible refine And.intro (by omega) ?_)
    refine go_cond ?_
    try simp -implicitDefEqProofs
    repeat (with_reducible refine And.intro (by omega) ?_)
    first | with_reducible refine selP_ite h (by first | exact Iff.rfl | omega | (simp; done) | (simp [Pin.eqi, Edge.eqi, Arr3U8.eqi, Lattice.eqi]; done) | fail) ?_ ?_ | with_reducible refine selP_ite2 h (by first | exact Iff.rfl | omega | (simp; done) | (simp [Pin.eqi, Edge.eqi, Arr3U8.eqi, Lattice.eqi]; done) | fail) ?_ ?_ | with_reducible refine selP_ite h (by first | (simp only [Pin.eqi, Edge.eqi, Arr3U8.eqi, Lattice.eqi]; grind) | grind | fail) ?_ ?_ | with_reducible refine selP_ite2 h (by first | (simp only [Pin.eqi, Edge.eqi, Arr3U8.eqi, Lattice.eqi]; grind) | grind | fail) ?_ ?_
    · intro c_5 p_5 h
      refine go_skip ?_
      refine go_seq ?_
      refine go_block ?_
      refine go_seq ?_
      refine go_reg ?_
      obtain ⟨⟨c_7, c_8⟩, h⟩ := chk_elim h
      try simp -implicitDefEqProofs [c_5, c_7, c_8]
      repeat (with_reducible refine And.intro (by omega) ?_)
      refine go_block ?_
      obtain ⟨rr_55, h, hn_9⟩ := bind_elim h
      refine go_loop (ε := List Edge) h 2 (fun e => e) (fun (v7__10, b1_1_11) => [(⟨.a, .a, .h⟩, .v (.int .i64 v7__10))]) (fun (v7__10, b1_1_11) => [[.v (.int .i64 0), .sl 0 [] .full], [.v (.int .i64 x1), .sl 4 (mp cEdge b1_1_11) (.id 0)]]) (fun (v7__10, b1_1_11) => [(b1_1_11).length]) (fun b1_1_12 => []) (fun b1_1_12 => [[.v (.int .i64 0), .sl 0 [] .full], [.v (.int .i64 x1), .sl 4 (mp cEdge b1_1_12) (.id 0)]]) (fun b1_1_12 => [(b1_1_12).length]) (wkN_of 1 [] (by simp) (by simp) (by simp) (by simp) (by simp)) ?_ ?_
      · rintro b1_1_12 hq
        try simp -implicitDefEqProofs
        have h := hn_9
        rw [hq] at h
        try dsimp only at h
        refine go_b ?_
        refine go_reg ?_
        try simp -implicitDefEqProofs [c_7, c_8]
        repeat (with_reducible refine And.intro (by omega) ?_)
        refine go_l ?_
        exact hB _ _ (Option.some.inj h).symm (wkN_of 1 [] (by simp) (by simp) (by simp) (by simp) (by simp))
      · rintro ⟨v7__10, b1_1_11⟩ o B' E' h hB hE hR
        simp only [ref18_Lattice_L3] at h
        simp -implicitDefEqProofs
        refine go_seq ?_
        refine go_seq ?_
        refine go_reg ?_
        try simp -implicitDefEqProofs
        repeat (with_reducible refine And.intro (by omega) ?_)
        refine go_cond ?_
        try simp -implicitDefEqProofs
        repeat (with_reducible refine And.intro (by omega) ?_)
        first | with_reducible refine selP_ite h (by first | exact Iff.rfl | omega | (simp; done) | (simp [Pin.eqi, Edge.eqi, Arr3U8.eqi, Lattice.eqi]; done) | fail) ?_ ?_ | with_reducible refine selP_ite2 h (by first | exact Iff.rfl | omega | (simp; done) | (simp [Pin.eqi, Edge.eqi, Arr3U8.eqi, Lattice.eqi]; done) | fail) ?_ ?_ | with_reducible refine selP_ite h (by first | (simp only [Pin.eqi, Edge.eqi, Arr3U8.eqi, Lattice.eqi]; grind) | grind | fail) ?_ ?_ | with_reducible refine selP_ite2 h (by first | (simp only [Pin.eqi, Edge.eqi, Arr3U8.eqi, Lattice.eqi]; grind) | grind | fail) ?_ ?_
        · intro c_13 p_13 h
          refine go_skip ?_
          refine go_seq ?_
          refine go_block ?_
          refine go_seq ?_
          refine go_reg ?_
          try simp -implicitDefEqProofs [c_13]
          repeat (with_reducible refine And.intro (by omega) ?_)
          refine go_block ?_
          obtain ⟨rr_54, h, hn_14⟩ := bind_elim h
          refine go_loop (ε := List Edge) h 4 (fun e => e) (fun (v8__15, b1_1_16) => [(⟨.a, .b, .a⟩, .v (.int .i64 v8__15))]) (fun (v8__15, b1_1_16) => [[.v (.int .i64 0), .sl 0 [] .full], [.v (.int .i64 x1), .sl 4 (mp cEdge b1_1_16) (.id 0)]]) (fun (v8__15, b1_1_16) => [(b1_1_16).length]) (fun b1_1_17 => []) (fun b1_1_17 => [[.v (.int .i64 0), .sl 0 [] .full], [.v (.int .i64 x1), .sl 4 (mp cEdge b1_1_17) (.id 0)]]) (fun b1_1_17 => [(b1_1_17).length]) (wkN_of 1 [] (by simp) (by simp) (by simp) (by simp) (by simp)) ?_ ?_
          · rintro b1_1_17 hq
            try simp -implicitDefEqProofs
            have h := hn_14
            rw [hq] at h
            try dsimp only at h
            refine go_b ?_
            refine go_reg ?_
            obtain ⟨⟨c_52, c_53⟩, h⟩ := chk_elim h
            try simp -implicitDefEqProofs [c_52, c_53]
            repeat (with_reducible refine And.intro (by omega) ?_)
            refine go_l ?_
            exact hB _ _ (Option.some.inj h).symm (wkN_of 1 [] (by simp) (by simp) (by simp) (by simp) (by simp))
          · rintro ⟨v8__15, b1_1_16⟩ o B' E' h hB hE hR
            simp only [ref18_Lattice_L2] at h
            simp -implicitDefEqProofs
            refine go_seq ?_
            refine go_seq ?_
            refine go_reg ?_
            try simp -implicitDefEqProofs
            repeat (with_reducible refine And.intro (by omega) ?_)
            refine go_cond ?_
            try simp -implicitDefEqProofs
            repeat (with_reducible refine And.intro (by omega) ?_)
            first | with_reducible refine selP_ite h (by first | exact Iff.rfl | omega | (simp; done) | (simp [Pin.eqi, Edge.eqi, Arr3U8.eqi, Lattice.eqi]; done) | fail) ?_ ?_ | with_reducible refine selP_ite2 h (by first | exact Iff.rfl | omega | (simp; done) | (simp [Pin.eqi, Edge.eqi, Arr3U8.eqi, Lattice.eqi]; done) | fail) ?_ ?_ | with_reducible refine selP_ite h (by first | (simp only [Pin.eqi, Edge.eqi, Arr3U8.eqi, Lattice.eqi]; grind) | grind | fail) ?_ ?_ | with_reducible refine selP_ite2 h (by first | (simp only [Pin.eqi, Edge.eqi, Arr3U8.eqi, Lattice.eqi]; grind) | grind | fail) ?_ ?_
            · intro c_18 p_18 h
              refine go_skip ?_
              refine go_seq ?_
              refine go_block ?_
              refine go_seq ?_
              refine go_reg ?_
              try simp -implicitDefEqProofs [c_18]
              repeat (with_reducible refine And.intro (by omega) ?_)
              refine go_seq ?_
              refine go_seq ?_
              refine go_reg ?_
              try simp -implicitDefEqProofs
              repeat (with_reducible refine And.intro (by omega) ?_)
              refine go_block ?_
              obtain ⟨rr_50, h, hn_19⟩ := bind_elim h
              refine go_loop (ε := Bool) h 6 (fun e => e) (fun (v9__20, v10__21) => [(⟨.a, .b, .b⟩, .v (.bool v9__20)), (⟨.a, .b, .c⟩, .v (.int .i64 v10__21))]) (fun (v9__20, v10__21) => [[.v (.int .i64 0), .sl 0 [] .full], [.v (.int .i64 x1), .sl 4 (mp cEdge b1_1_16) (.id 0)]]) (fun (v9__20, v10__21) => [(b1_1_16).length]) (fun v9_22 => [(⟨.a, .b, .b⟩, .v (.bool v9_22))]) (fun v9_22 => [[.v (.int .i64 0), .sl 0 [] .full], [.v (.int .i64 x1), .sl 4 (mp cEdge b1_1_16) (.id 0)]]) (fun v9_22 => [(b1_1_16).length]) (wkN_of 1 [] (by simp) (by simp) (by simp) (by simp) (by simp)) ?_ ?_
              · rintro v9_22 hq
                try simp -implicitDefEqProofs
                have h := hn_19
                rw [hq] at h
                try dsimp only at h
                refine go_seq ?_
                refine go_reg ?_
                try simp -implicitDefEqProofs
                repeat (with_reducible refine And.intro (by omega) ?_)
                refine go_join h [⟨.b, .a, .h⟩, ⟨.b, .b, .a⟩, ⟨.b, .b, .b⟩, ⟨.b, .b, .c⟩, ⟨.b, .b, .d⟩, ⟨.b, .b, .e⟩, ⟨.b, .b, .f⟩, ⟨.b, .b, .g⟩, ⟨.b, .b, .h⟩, ⟨.b, .c, .a⟩, ⟨.b, .c, .b⟩, ⟨.b, .c, .c⟩] (fun b1_1_40 => []) (fun b1_1_40 => [[.v (.int .i64 0), .sl 0 [] .full], [.v (.int .i64 x1), .sl 4 (mp cEdge b1_1_40) (.id 0)]]) (fun b1_1_40 => [(b1_1_40).length]) (by repeat (first | exact soft_c | refine soft_b ?_)) ?_ ?_
                · rintro b1_1_40 h
                  try dsimp only at h
                  try simp -implicitDefEqProofs
                  refine go_b ?_
                  refine go_reg ?_
                  obtain ⟨⟨c_48, c_49⟩, h⟩ := chk_elim h
                  try simp -implicitDefEqProofs [c_48, c_49]
                  repeat (with_reducible refine And.intro (by omega) ?_)
                  refine go_l ?_
                  exact hB _ _ (Option.some.inj h).symm (wkN_of 1 [] (by simp) (by simp) (by simp) (by simp) (by simp))
                · intro v E h hJ
                  refine go_cond ?_
                  try simp -implicitDefEqProofs
                  repeat (with_reducible refine And.intro (by omega) ?_)
                  first | with_reducible refine selP_ite h (by first | exact Iff.rfl | omega | (simp; done) | (simp [Pin.eqi, Edge.eqi, Arr3U8.eqi, Lattice.eqi]; done) | fail) ?_ ?_ | with_reducible refine selP_ite2 h (by first | exact Iff.rfl | omega | (simp; done) | (simp [Pin.eqi, Edge.eqi, Arr3U8.eqi, Lattice.eqi]; done) | fail) ?_ ?_ | with_reducible refine selP_ite h (by first | (simp only [Pin.eqi, Edge.eqi, Arr3U8.eqi, Lattice.eqi]; grind) | grind | fail) ?_ ?_ | with_reducible refine selP_ite2 h (by first | (simp only [Pin.eqi, Edge.eqi, Arr3U8.eqi, Lattice.eqi]; grind) | grind | fail) ?_ ?_
                  · intro c_42 p_42 h
                    refine go_reg ?_
                    obtain ⟨⟨c_44, c_45⟩, h⟩ := chk_elim h
                    obtain ⟨c_46, h⟩ := chk_elim h
                    try simp -implicitDefEqProofs [c_42, c_44, c_45]
                    repeat (with_reducible refine And.intro (by omega) ?_)
                    refine runR_apiT cEdge b1_1_16 [(⟨v6__2, v7__10, v8__15, v6__2 + v8__15⟩ : Edge)] (by first | rfl | simp) (elems_mp cEdge _ _ [(⟨v6__2, v7__10, v8__15, v6__2 + v8__15⟩ : Edge)] _) (by simp) c_46 ?_ (by decide)
                    try simp -implicitDefEqProofs
                    repeat (with_reducible refine And.intro (by omega) ?_)
                    refine go_l ?_
                    obtain rfl := Option.some.inj h
                    exact hJ _ (wkN_of 1 [] (by simp [c_42]) (by simp [c_42]) (by simp) (by simp) (by simp))
                  · intro c_42 p_42 h
                    have q_42 := eq_false_of_ne_true c_42
                    refine go_skip ?_
                    refine go_l ?_
                    obtain rfl := Option.some.inj h
                    exact hJ _ (wkN_of 1 [] (by simp [c_42]) (by simp [c_42]) (by simp) (by simp) (by simp))
              · rintro ⟨v9__20, v10__21⟩ o B' E' h hB hE hR
                simp only [ref18_Lattice_L1] at h
                simp -implicitDefEqProofs
                refine go_seq ?_
                refine go_seq ?_
                refine go_reg ?_
                refine run_join h [⟨.a, .d, .g⟩, ⟨.a, .d, .h⟩, ⟨.a, .e, .a⟩, ⟨.a, .e, .b⟩, ⟨.a, .e, .c⟩, ⟨.a, .e, .d⟩, ⟨.a, .e, .e⟩, ⟨.a, .e, .f⟩] (fun v37_23 => [(⟨.a, .e, .f⟩, .v (.bool v37_23))]) (fun v37_23 => [[.v (.int .i64 0), .sl 0 [] .full], [.v (.int .i64 x1), .sl 4 (mp cEdge b1_1_16) (.id 0)]]) (fun v37_23 => [(b1_1_16).length]) (by repeat (first | exact soft_c | refine soft_b ?_)) ?_ ?_
                · rintro v37_23 h
                  try dsimp only at h
                  try simp -implicitDefEqProofs
                  refine go_cond ?_
                  try simp -implicitDefEqProofs
                  repeat (with_reducible refine And.intro (by omega) ?_)
                  first | with_reducible refine selP_ite h (by first | exact Iff.rfl | omega | (simp; done) | (simp [Pin.eqi, Edge.eqi, Arr3U8.eqi, Lattice.eqi]; done) | fail) ?_ ?_ | with_reducible refine selP_ite2 h (by first | exact Iff.rfl | omega | (simp; done) | (simp [Pin.eqi, Edge.eqi, Arr3U8.eqi, Lattice.eqi]; done) | fail) ?_ ?_ | with_reducible refine selP_ite h (by first | (simp only [Pin.eqi, Edge.eqi, Arr3U8.eqi, Lattice.eqi]; grind) | grind | fail) ?_ ?_ | with_reducible refine selP_ite2 h (by first | (simp only [Pin.eqi, Edge.eqi, Arr3U8.eqi, Lattice.eqi]; grind) | grind | fail) ?_ ?_
                  · intro c_26 p_26 h
                    refine go_skip ?_
                    refine go_seq ?_
                    refine go_block ?_
                    refine go_seq ?_
                    refine go_reg ?_
                    obtain ⟨⟨c_28, c_29⟩, h⟩ := chk_elim h
                    have k_30 := toNat_lt c_28 c_29
                    obtain ⟨w45_31, hc, h⟩ := bind_elim h
                    try simp -implicitDefEqProofs [c_26, c_28, c_29, k_30]
                    repeat (with_reducible refine And.intro (by omega) ?_)
                    refine runC_t (link_ref18_Pin hc) (by simp) ?_
                    try simp -implicitDefEqProofs
                    repeat (with_reducible refine And.intro (by omega) ?_)
                    refine go_reg ?_
                    refine run_join h [⟨.a, .b, .b⟩, ⟨.a, .f, .g⟩, ⟨.a, .f, .h⟩, ⟨.a, .g, .a⟩, ⟨.a, .g, .b⟩, ⟨.a, .g, .c⟩, ⟨.a, .g, .d⟩, ⟨.a, .g, .e⟩, ⟨.a, .g, .f⟩, ⟨.a, .g, .g⟩, ⟨.a, .g, .h⟩, ⟨.a, .h, .a⟩, ⟨.a, .h, .b⟩, ⟨.a, .h, .c⟩, ⟨.a, .h, .d⟩, ⟨.a, .h, .e⟩, ⟨.a, .h, .f⟩, ⟨.a, .h, .g⟩, ⟨.a, .h, .h⟩, ⟨.b, .a, .a⟩, ⟨.b, .a, .b⟩, ⟨.b, .a, .c⟩, ⟨.b, .a, .d⟩, ⟨.b, .a, .e⟩, ⟨.b, .a, .f⟩] (fun v9_32 => [(⟨.a, .b, .b⟩, .v (.bool v9_32))]) (fun v9_32 => [[.v (.int .i64 0), .sl 0 [] .full], [.v (.int .i64 x1), .sl 4 (mp cEdge b1_1_16) (.id 0)], [.v (.int .i64 w45_31.From), .v (.int .i64 w45_31.To), .v (.int .i64 w45_31.Word)]]) (fun v9_32 => [(b1_1_16).length]) (by repeat (first | exact soft_c | refine soft_b ?_)) ?_ ?_
                    · rintro v9_32 h
                      try dsimp only at h
                      try simp -implicitDefEqProofs
                      refine go_b ?_
                      refine go_reg ?_
                      obtain ⟨⟨c_38, c_39⟩, h⟩ := chk_elim h
                      try simp -implicitDefEqProofs [c_38, c_39]
                      repeat (with_reducible refine And.intro (by omega) ?_)
                      refine go_l ?_
                      exact hB _ _ (Option.some.inj h).symm (wkN_of 1 [] (by simp) (by simp) (by simp) (by simp) (by simp))
                    · intro v E h hJ
                      try simp -implicitDefEqProofs
                      repeat (with_reducible refine And.intro (by omega) ?_)
                      first | with_reducible refine selP_ite h (by first | exact Iff.rfl | omega | (simp; done) | (simp; done) | fail) ?_ ?_ | with_reducible refine selP_ite2 h (by first | exact Iff.rfl | omega | (simp; done) | (simp [Pin.eqi, Edge.eqi, Arr3U8.eqi, Lattice.eqi]; done) | fail) ?_ ?_ | with_reducible refine selP_ite h (by first | (simp only [Pin.eqi, Edge.eqi, Arr3U8.eqi, Lattice.eqi]; grind) | grind | fail) ?_ ?_ | with_reducible refine selP_ite2 h (by first | (simp only [Pin.eqi, Edge.eqi, Arr3U8.eqi, Lattice.eqi]; grind) | grind | fail) ?_ ?_
                      · intro c_34 p_34 h
                        try simp -implicitDefEqProofs [c_34]
                        repeat (with_reducible refine And.intro (by omega) ?_)
                        refine go_l ?_
                        obtain rfl := Option.some.inj h
                        exact hJ _ (wkN_of 1 [] (by simp [c_34]) (by simp [c_34]) (by simp) (by simp) (by simp))
                      · intro c_34 p_34 h
                        have q_34 := eq_false_of_ne_true c_34
                        try simp -implicitDefEqProofs [p_34]
                        repeat (with_reducible refine And.intro (by omega) ?_)
                        first | with_reducible refine selP_ite h (by first | exact Iff.rfl | omega | (simp; done) | (simp [Pin.eqi, Edge.eqi, Arr3U8.eqi, Lattice.eqi]; done) | fail) ?_ ?_ | with_reducible refine selP_ite2 h (by first | exact Iff.rfl | omega | (simp; done) | (simp [Pin.eqi, Edge.eqi, Arr3U8.eqi, Lattice.eqi]; done) | fail) ?_ ?_ | with_reducible refine selP_ite h (by first | (simp only [Pin.eqi, Edge.eqi, Arr3U8.eqi, Lattice.eqi]; grind) | grind | fail) ?_ ?_ | with_reducible refine selP_ite2 h (by first | (simp only [Pin.eqi, Edge.eqi, Arr3U8.eqi, Lattice.eqi]; grind) | grind | fail) ?_ ?_
                        · intro c_35 p_35 h
                          try simp -implicitDefEqProofs [c_35]
                          repeat (with_reducible refine And.intro (by omega) ?_)
                          first | with_reducible refine selP_ite h (by first | exact Iff.rfl | omega | (simp; done) | (simp [Pin.eqi, Edge.eqi, Arr3U8.eqi, Lattice.eqi]; done) | fail) ?_ ?_ | with_reducible refine selP_ite2 h (by first | exact Iff.rfl | omega | (simp; done) | (simp [Pin.eqi, Edge.eqi, Arr3U8.eqi, Lattice.eqi]; done) | fail) ?_ ?_ | with_reducible refine selP_ite h (by first | (simp only [Pin.eqi, Edge.eqi, Arr3U8.eqi, Lattice.eqi]; grind) | grind | fail) ?_ ?_ | with_reducible refine selP_ite2 h (by first | (simp only [Pin.eqi, Edge.eqi, Arr3U8.eqi, Lattice.eqi]; grind) | grind | fail) ?_ ?_
                          · intro c_36 p_36 h
                            try simp -implicitDefEqProofs [c_28, c_29, k_30, c_36]
                            repeat (with_reducible refine And.intro (by omega) ?_)
                            refine go_l ?_
                            obtain rfl := Option.some.inj h
                            exact hJ _ (wkN_of 1 [] (by simp [c_34, c_35, c_36]) (by simp [c_34, c_35, c_36]) (by simp) (by simp) (by simp))
                          · intro c_36 p_36 h
                            try simp -implicitDefEqProofs [c_36]
                            repeat (with_reducible refine And.intro (by omega) ?_)
                            refine go_l ?_
                            obtain rfl := Option.some.inj h
                            exact hJ _ (wkN_of 1 [] (by simp [c_34, c_35]) (by simp [c_34, c_35]) (by simp) (by simp) (by simp))
                        · intro c_35 p_35 h
                          try simp -implicitDefEqProofs [c_35]
                          repeat (with_reducible refine And.intro (by omega) ?_)
                          refine go_l ?_
                          obtain rfl := Option.some.inj h
                          exact hJ _ (wkN_of 1 [] (by simp [c_34]) (by simp [c_34]) (by simp) (by simp) (by simp))
                  · intro c_26 p_26 h
                    have q_26 := eq_false_of_ne_true c_26
                    refine go_exit ?_
                    simp -implicitDefEqProofs
                    exact hE _ _ (Option.some.inj h).symm (wkN_of 1 [] (by simp [c_26]) (by simp) (by simp) (by simp) (by simp))
                · intro v E h hJ
                  try simp -implicitDefEqProofs
                  repeat (with_reducible refine And.intro (by omega) ?_)
                  first | with_reducible refine selP_ite h (by first | exact Iff.rfl | omega | (simp; done) | (simp [Pin.eqi, Edge.eqi, Arr3U8.eqi, Lattice.eqi]; done) | fail) ?_ ?_ | with_reducible refine selP_ite2 h (by first | exact Iff.rfl | omega | (simp; done) | (simp [Pin.eqi, Edge.eqi, Arr3U8.eqi, Lattice.eqi]; done) | fail) ?_ ?_ | with_reducible refine selP_ite h (by first | (simp only [Pin.eqi, Edge.eqi, Arr3U8.eqi, Lattice.eqi]; grind) | grind | fail) ?_ ?_ | with_reducible refine selP_ite2 h (by first | (simp only [Pin.eqi, Edge.eqi, Arr3U8.eqi, Lattice.eqi]; grind) | grind | fail) ?_ ?_
                  · intro c_25 p_25 h
                    try simp -implicitDefEqProofs [c_25]
                    repeat (with_reducible refine And.intro (by omega) ?_)
                    refine go_l ?_
                    obtain rfl := Option.some.inj h
                    exact hJ _ (wkN_of 1 [] (by simp) (by simp) (by simp) (by simp) (by simp))
                  · intro c_25 p_25 h
                    try simp -implicitDefEqProofs [c_25]
                    repeat (with_reducible refine And.intro (by omega) ?_)
                    refine go_l ?_
                    obtain rfl := Option.some.inj h
                    exact hJ _ (wkN_of 1 [] (by simp) (by simp) (by simp) (by simp) (by simp))
            · intro c_18 p_18 h
              refine go_exit ?_
              simp -implicitDefEqProofs
              exact hE _ _ (Option.some.inj h).symm (wkN_of 1 [] (by simp [c_18]) (by simp) (by simp) (by simp) (by simp))
        · intro c_13 p_13 h
          refine go_exit ?_
          simp -implicitDefEqProofs
          exact hE _ _ (Option.some.inj h).symm (wkN_of 1 [] (by simp [c_13]) (by simp) (by simp) (by simp) (by simp))
    · intro c_5 p_5 h
      refine go_exit ?_
      simp -implicitDefEqProofs
      exact hE _ _ (Option.some.inj h).symm (wkN_of 1 [] (by simp [c_5]) (by simp) (by simp) (by simp) (by simp))
def ref18_Ways_L1 (x0 : Lattice) (v6__5 : Int) (w41_13 : List (List Edge)) : (List (List Edge) × Int) → Option ((List (List Edge) × Int) ⊕ ((List (List Edge)))) := fun (v5__15, v8__16) =>
  (
    (
      if v8__16 < (w41_13.length : Int) then (
        some (decide ((v5__15.length : Int) < 300))
      ) else (
        some false
      )
    : Option (Bool))
  ).bind fun v50_18 =>
  if v50_18 = true then (
    chk (0 ≤ v6__5 ∧ v6__5 < (x0.Edges.length : Int)) <|
    chk (0 ≤ v8__16 ∧ v8__16 < (w41_13.length : Int)) <|
    chk ((([at' x0.Edges v6__5] : List Edge).length + (at' w41_13 v8__16).length) * 32 ≤ 140737488355328) <|
    chk ((v5__15.length + ([[at' x0.Edges v6__5] ++ (at' w41_13 v8__16)] : List (List Edge)).length) * 24 ≤ 140737488355328) <|
    chk (-9223372036854775808 ≤ v8__16 + 1 ∧ v8__16 + 1 ≤ 9223372036854775807) <|
    some (.inl (v5__15 ++ [[at' x0.Edges v6__5] ++ (at' w41_13 v8__16)], v8__16 + 1))
  ) else (
    some (.inr v5__15)
  )
def ref18_Ways_L2 (self : Lattice → Int → Option (List (List Edge))) (x0 : Lattice) (x1 : Int) : (List (List Edge) × Int) → Option ((List (List Edge) × Int) ⊕ ((List (List Edge)))) := fun (v5__4, v6__5) =>
  if v6__5 < (x0.Edges.length : Int) then (
    chk (0 ≤ v6__5 ∧ v6__5 < (x0.Edges.length : Int)) <|
    if (at' x0.Edges v6__5).From = x1 then (
      (self x0 ((at' x0.Edges v6__5).To)).bind fun w41_13 =>
      (loop (ref18_Ways_L1 x0 v6__5 w41_13) (v5__4, 0)).bind fun v5_17 =>
      chk (-9223372036854775808 ≤ v6__5 + 1 ∧ v6__5 + 1 ≤ 9223372036854775807) <|
      some (.inl (v5_17, v6__5 + 1))
    ) else (
      chk (-9223372036854775808 ≤ v6__5 + 1 ∧ v6__5 + 1 ≤ 9223372036854775807) <|
      some (.inl (v5__4, v6__5 + 1))
    )
  ) else (
    some (.inr v5__4)
  )
def ref18_Ways' : Nat → Lattice → Int → Option (List (List Edge))
  | 0, _, _ => none
  | n + 1, x0, x1 =>
    let self := ref18_Ways' n
    if x1 = x0.N then (
      chk ((([] : List (List Edge)).length + ([[]] : List (List Edge)).length) * 24 ≤ 140737488355328) <|
      some ([] ++ [[]])
    ) else (
      (loop (ref18_Ways_L2 self x0 x1) ([], 0)).bind fun v5_6 =>
      some v5_6
    )
def ref18_Ways (x0 : Lattice) (x1 : Int) : Option (List (List Edge)) := ref18_Ways' fuel x0 x1
theorem link_ref18_Ways' : ∀ (n : Nat) {x0 : Lattice} {x1 : Int} {r : List (List Edge)} (_h : ref18_Ways' n x0 x1 = some r), PCalls Try.prog 26 [.agg (cLattice .lent x0), .v (.int .i64 x1)] (.sl 1 (mp cLEdge r) .none) := by
  intro n
  induction n with
  | zero => intro x0 x1 r h; cases h
  | succ n ih =>
    intro x0 x1 r h
    simp only [ref18_Ways'] at h
    refine pcalls is26 na26 ?_
    try simp -implicitDefEqProofs
    refine go_seq ?_
    refine go_reg ?_
    try simp -implicitDefEqProofs
    repeat (with_reducible refine And.intro (by omega) ?_)
    refine go_seq ?_
    refine go_reg ?_
    try simp -implicitDefEqProofs
    repeat (with_reducible refine And.intro (by omega) ?_)
    refine go_seq ?_
    refine go_seq ?_
    refine go_reg ?_
    try simp -implicitDefEqProofs
    repeat (with_reducible refine And.intro (by omega) ?_)
    refine go_cond ?_
    try simp -implicitDefEqProofs
    repeat (with_reducible refine And.intro (by omega) ?_)
    first | with_reducible refine selP_ite h (by first | exact Iff.rfl | omega | (simp; done) | (simp [Pin.eqi, Edge.eqi, Arr3U8.eqi, Lattice.eqi]; done) | fail) ?_ ?_ | with_reducible refine selP_ite2 h (by first | exact Iff.rfl | omega | (simp; done) | (simp [Pin.eqi, Edge.eqi, Arr3U8.eqi, Lattice.eqi]; done) | fail) ?_ ?_ | with_reducible refine selP_ite h (by first | (simp only [Pin.eqi, Edge.eqi, Arr3U8.eqi, Lattice.eqi]; grind) | grind | fail) ?_ ?_ | with_reducible refine selP_ite2 h (by first | (simp only [Pin.eqi, Edge.eqi, Arr3U8.eqi, Lattice.eqi]; grind) | grind | fail) ?_ ?_
    · intro c_1 p_1 h
      refine go_seq ?_
      refine go_reg ?_
      obtain ⟨c_2, h⟩ := chk_elim h
      try simp -implicitDefEqProofs [c_1]
      repeat (with_reducible refine And.intro (by omega) ?_)
      refine runR_apfT cLEdge [] [[]] (by first | rfl | simp) (elems_mp cLEdge _ _ [[]] _) (by simp) c_2 ?_ (by decide)
      try simp -implicitDefEqProofs
      repeat (with_reducible refine And.intro (by omega) ?_)
      obtain rfl := Option.some.inj h
      refine go_ret ?_
      simp -implicitDefEqProofs
    · intro c_1 p_1 h
      refine go_skip ?_
      refine go_seq ?_
      refine go_seq ?_
      refine go_reg ?_
      try simp -implicitDefEqProofs [c_1]
      repeat (with_reducible refine And.intro (by omega) ?_)
      refine go_block ?_
      obtain ⟨rr_42, h, hn_3⟩ := bind_elim h
      refine go_loop (ε := List (List Edge)) h 0 (fun e => e) (fun (v5__4, v6__5) => [(⟨.a, .a, .f⟩, .sl 1 (mp cLEdge v5__4) (.id 0)), (⟨.a, .a, .g⟩, .v (.int .i64 v6__5))]) (fun (v5__4, v6__5) => [[.v (.int .i64 x0.N), .sl 4 (mp cEdge x0.Edges) .lent]]) (fun (v5__4, v6__5) => [(v5__4).length]) (fun v5_6 => [(⟨.a, .a, .f⟩, .sl 1 (mp cLEdge v5_6) (.id 0))]) (fun v5_6 => [[.v (.int .i64 x0.N), .sl 4 (mp cEdge x0.Edges) .lent]]) (fun v5_6 => [(v5_6).length]) (wkN_of 0 [0] (by simp) (by simp) (by simp) (by simp) (by simp)) ?_ ?_
      · rintro v5_6 hq
        try simp -implicitDefEqProofs
        have h := hn_3
        rw [hq] at h
        try dsimp only at h
        refine go_seq ?_
        refine go_reg ?_
        try simp -implicitDefEqProofs
        repeat (with_reducible refine And.intro (by omega) ?_)
        obtain rfl := Option.some.inj h
        refine go_ret ?_
        simp -implicitDefEqProofs
      · rintro ⟨v5__4, v6__5⟩ o B' E' h hB hE hR
        simp only [ref18_Ways_L2] at h
        simp -implicitDefEqProofs
        refine go_seq ?_
        refine go_seq ?_
        refine go_reg ?_
        try simp -implicitDefEqProofs
        repeat (with_reducible refine And.intro (by omega) ?_)
        refine go_cond ?_
        try simp -implicitDefEqProofs
        repeat (with_reducible refine And.intro (by omega) ?_)
        first | with_reducible refine selP_ite h (by first | exact Iff.rfl | omega | (simp; done) | (simp [Pin.eqi, Edge.eqi, Arr3U8.eqi, Lattice.eqi]; done) | fail) ?_ ?_ | with_reducible refine selP_ite2 h (by first | exact Iff.rfl | omega | (simp; done) | (simp [Pin.eqi, Edge.eqi, Arr3U8.eqi, Lattice.eqi]; done) | fail) ?_ ?_ | with_reducible refine selP_ite h (by first | (simp only [Pin.eqi, Edge.eqi, Arr3U8.eqi, Lattice.eqi]; grind) | grind | fail) ?_ ?_ | with_reducible refine selP_ite2 h (by first | (simp only [Pin.eqi, Edge.eqi, Arr3U8.eqi, Lattice.eqi]; grind) | grind | fail) ?_ ?_
        · intro c_7 p_7 h
          refine go_skip ?_
          refine go_seq ?_
          refine go_block ?_
          refine go_seq ?_
          refine go_seq ?_
          refine go_reg ?_
          obtain ⟨⟨c_9, c_10⟩, h⟩ := chk_elim h
          have k_11 := toNat_lt c_9 c_10
          try simp -implicitDefEqProofs [c_7, c_9, k_11]
          repeat (with_reducible refine And.intro (by omega) ?_)
          refine go_cond ?_
          try simp -implicitDefEqProofs
          repeat (with_reducible refine And.intro (by omega) ?_)
          first | with_reducible refine selP_ite h (by first | exact Iff.rfl | omega | (simp; done) | (simp [Pin.eqi, Edge.eqi, Arr3U8.eqi, Lattice.eqi]; done) | fail) ?_ ?_ | with_reducible refine selP_ite2 h (by first | exact Iff.rfl | omega | (simp; done) | (simp [Pin.eqi, Edge.eqi, Arr3U8.eqi, Lattice.eqi]; done) | fail) ?_ ?_ | with_reducible refine selP_ite h (by first | (simp only [Pin.eqi, Edge.eqi, Arr3U8.eqi, Lattice.eqi]; grind) | grind | fail) ?_ ?_ | with_reducible refine selP_ite2 h (by first | (simp only [Pin.eqi, Edge.eqi, Arr3U8.eqi, Lattice.eqi]; grind) | grind | fail) ?_ ?_
          · intro c_12 p_12 h
            refine go_skip ?_
            refine go_seq ?_
            refine go_reg ?_
            obtain ⟨w41_13, hc, h⟩ := bind_elim h
            try simp -implicitDefEqProofs [c_7, c_9, k_11, c_12]
            repeat (with_reducible refine And.intro (by omega) ?_)
            refine runC_t (ih hc) (by simp) ?_
            try simp -implicitDefEqProofs
            repeat (with_reducible refine And.intro (by omega) ?_)
            refine go_seq ?_
            refine go_reg ?_
            try simp -implicitDefEqProofs
            repeat (with_reducible refine And.intro (by omega) ?_)
            refine go_block ?_
            obtain ⟨rr_38, h, hn_14⟩ := bind_elim h
            refine go_loop (ε := List (List Edge)) h 2 (fun e => e) (fun (v5__15, v8__16) => [(⟨.a, .a, .f⟩, .sl 1 (mp cLEdge v5__15) (.id 0)), (⟨.a, .b, .a⟩, .v (.int .i64 v8__16))]) (fun (v5__15, v8__16) => [[.v (.int .i64 x0.N), .sl 4 (mp cEdge x0.Edges) .lent]]) (fun (v5__15, v8__16) => [(v5__15).length]) (fun v5_17 => [(⟨.a, .a, .f⟩, .sl 1 (mp cLEdge v5_17) (.id 0))]) (fun v5_17 => [[.v (.int .i64 x0.N), .sl 4 (mp cEdge x0.Edges) .lent]]) (fun v5_17 => [(v5_17).length]) (wkN_of 1 [] (by simp) (by simp) (by simp) (by simp) (by simp)) ?_ ?_
            · rintro v5_17 hq
              try simp -implicitDefEqProofs
              have h := hn_14
              rw [hq] at h
              try dsimp only at h
              refine go_b ?_
              refine go_reg ?_
              obtain ⟨⟨c_36, c_37⟩, h⟩ := chk_elim h
              try simp -implicitDefEqProofs [c_36, c_37]
              repeat (with_reducible refine And.intro (by omega) ?_)
              refine go_l ?_
              exact hB _ _ (Option.some.inj h).symm (wkN_of 1 [] (by simp) (by simp) (by simp) (by simp) (by simp))
            · rintro ⟨v5__15, v8__16⟩ o B' E' h hB hE hR
              simp only [ref18_Ways_L1] at h
              simp -implicitDefEqProofs
              refine go_seq ?_
              refine go_seq ?_
              refine go_reg ?_
              refine run_join h [⟨.a, .f, .c⟩, ⟨.a, .f, .d⟩, ⟨.a, .f, .e⟩, ⟨.a, .f, .f⟩, ⟨.a, .f, .g⟩, ⟨.a, .f, .h⟩, ⟨.a, .g, .a⟩, ⟨.a, .g, .b⟩, ⟨.a, .g, .c⟩] (fun v50_18 => [(⟨.a, .g, .c⟩, .v (.bool v50_18))]) (fun v50_18 => [[.v (.int .i64 x0.N), .sl 4 (mp cEdge x0.Edges) .lent]]) (fun v50_18 => [(v5__15).length]) (by repeat (first | exact soft_c | refine soft_b ?_)) ?_ ?_
              · rintro v50_18 h
                try dsimp only at h
                try simp -implicitDefEqProofs
                refine go_cond ?_
                try simp -implicitDefEqProofs
                repeat (with_reducible refine And.intro (by omega) ?_)
                first | with_reducible refine selP_ite h (by first | exact Iff.rfl | omega | (simp; done) | (simp [Pin.eqi, Edge.eqi, Arr3U8.eqi, Lattice.eqi]; done) | fail) ?_ ?_ | with_reducible refine selP_ite2 h (by first | exact Iff.rfl | omega | (simp; done) | (simp [Pin.eqi, Edge.eqi, Arr3U8.eqi, Lattice.eqi]; done) | fail) ?_ ?_ | with_reducible refine selP_ite h (by first | (simp only [Pin.eqi, Edge.eqi, Arr3U8.eqi, Lattice.eqi]; grind) | grind | fail) ?_ ?_ | with_reducible refine selP_ite2 h (by first | (simp only [Pin.eqi, Edge.eqi, Arr3U8.eqi, Lattice.eqi]; grind) | grind | fail) ?_ ?_
                · intro c_21 p_21 h
                  refine go_skip ?_
                  refine go_seq ?_
                  refine go_block ?_
                  refine go_seq ?_
                  refine go_reg ?_
                  obtain ⟨⟨c_23, c_24⟩, h⟩ := chk_elim h
                  have k_25 := toNat_lt c_23 c_24
                  obtain ⟨⟨c_27, c_28⟩, h⟩ := chk_elim h
                  have k_29 := toNat_lt c_27 c_28
                  obtain ⟨c_30, h⟩ := chk_elim h
                  try simp -implicitDefEqProofs [c_21, c_23, c_24, k_25, c_27, c_28, k_29]
                  repeat (with_reducible refine And.intro (by omega) ?_)
                  refine runR_apfT cEdge [at' x0.Edges v6__5] (at' w41_13 v8__16) (by first | rfl | simp) (elems_mp cEdge _ _ (at' w41_13 v8__16) _) (by simp) c_30 ?_ (by decide)
                  try simp -implicitDefEqProofs
                  repeat (with_reducible refine And.intro (by omega) ?_)
                  refine go_reg ?_
                  obtain ⟨c_31, h⟩ := chk_elim h
                  try simp -implicitDefEqProofs
                  repeat (with_reducible refine And.intro (by omega) ?_)
                  refine runR_apiT cLEdge v5__15 [[at' x0.Edges v6__5] ++ (at' w41_13 v8__16)] (by first | rfl | simp) (elems_mp cLEdge _ _ [[at' x0.Edges v6__5] ++ (at' w41_13 v8__16)] _) (by simp) c_31 ?_ (by decide)
                  try simp -implicitDefEqProofs
                  repeat (with_reducible refine And.intro (by omega) ?_)
                  refine go_b ?_
                  refine go_reg ?_
                  obtain ⟨⟨c_33, c_34⟩, h⟩ := chk_elim h
                  try simp -implicitDefEqProofs [c_33, c_34]
                  repeat (with_reducible refine And.intro (by omega) ?_)
                  refine go_l ?_
                  exact hB _ _ (Option.some.inj h).symm (wkN_of 1 [] (by simp) (by simp) (by simp) (by simp) (by simp))
                · intro c_21 p_21 h
                  have q_21 := eq_false_of_ne_true c_21
                  refine go_exit ?_
                  simp -implicitDefEqProofs
                  exact hE _ _ (Option.some.inj h).symm (wkN_of 1 [] (by simp [c_21]) (by simp) (by simp) (by simp) (by simp))
              · intro v E h hJ
                try simp -implicitDefEqProofs
                repeat (with_reducible refine And.intro (by omega) ?_)
                first | with_reducible refine selP_ite h (by first | exact Iff.rfl | omega | (simp; done) | (simp [Pin.eqi, Edge.eqi, Arr3U8.eqi, Lattice.eqi]; done) | fail) ?_ ?_ | with_reducible refine selP_ite2 h (by first | exact Iff.rfl | omega | (simp; done) | (simp [Pin.eqi, Edge.eqi, Arr3U8.eqi, Lattice.eqi]; done) | fail) ?_ ?_ | with_reducible refine selP_ite h (by first | (simp only [Pin.eqi, Edge.eqi, Arr3U8.eqi, Lattice.eqi]; grind) | grind | fail) ?_ ?_ | with_reducible refine selP_ite2 h (by first | (simp only [Pin.eqi, Edge.eqi, Arr3U8.eqi, Lattice.eqi]; grind) | grind | fail) ?_ ?_
                · intro c_20 p_20 h
                  try simp -implicitDefEqProofs [c_20]
                  repeat (with_reducible refine And.intro (by omega) ?_)
                  refine go_l ?_
                  obtain rfl := Option.some.inj h
                  exact hJ _ (wkN_of 1 [] (by simp) (by simp) (by simp) (by simp) (by simp))
                · intro c_20 p_20 h
                  try simp -implicitDefEqProofs [c_20]
                  repeat (with_reducible refine And.intro (by omega) ?_)
                  refine go_l ?_
                  obtain rfl := Option.some.inj h
                  exact hJ _ (wkN_of 1 [] (by simp) (by simp) (by simp) (by simp) (by simp))
          · intro c_12 p_12 h
            refine go_exit ?_
            simp -implicitDefEqProofs
            refine go_reg ?_
            obtain ⟨⟨c_40, c_41⟩, h⟩ := chk_elim h
            try simp -implicitDefEqProofs [c_12, c_40, c_41]
            repeat (with_reducible refine And.intro (by omega) ?_)
            refine go_l ?_
            exact hB _ _ (Option.some.inj h).symm (wkN_of 1 [] (by simp) (by simp) (by simp) (by simp) (by simp))
        · intro c_7 p_7 h
          refine go_exit ?_
          simp -implicitDefEqProofs
          exact hE _ _ (Option.some.inj h).symm (wkN_of 1 [] (by simp [c_7]) (by simp) (by simp) (by simp) (by simp))
theorem link_ref18_Ways {x0 : Lattice} {x1 : Int} {r : List (List Edge)} (h : ref18_Ways x0 x1 = some r) : PCalls Try.prog 26 [.agg (cLattice .lent x0), .v (.int .i64 x1)] (.sl 1 (mp cLEdge r) .none) := link_ref18_Ways' fuel h
def ref18_SameWays_L1 (x0 : List (List Edge)) (x1 : List (List Edge)) : Int → Option (Int ⊕ (Bool ⊕ Unit)) := fun v5__3 =>
  if v5__3 < (x0.length : Int) then (
    chk (0 ≤ v5__3 ∧ v5__3 < (x0.length : Int)) <|
    chk (0 ≤ v5__3 ∧ v5__3 < (x1.length : Int)) <|
    (ref18_SameEdges (⟨0, at' x0 v5__3⟩ : Lattice) (⟨0, at' x1 v5__3⟩ : Lattice)).bind fun w27_13 =>
    if w27_13 = true then (
      chk (-9223372036854775808 ≤ v5__3 + 1 ∧ v5__3 + 1 ≤ 9223372036854775807) <|
      some (.inl (v5__3 + 1))
    ) else (
      some (.inr (.inl false))
    )
  ) else (
    some (.inr (.inr ()))
  )
def ref18_SameWays (x0 : List (List Edge)) (x1 : List (List Edge)) : Option Bool :=
  if (x0.length : Int) = (x1.length : Int) then (
    (loop (ref18_SameWays_L1 x0 x1) 0).bind fun
    | .inl e => some e
    | .inr _ =>
    some true
  ) else (
    some false
  )
theorem link_ref18_SameWays {x0 : List (List Edge)} {x1 : List (List Edge)} {r : Bool} (h : ref18_SameWays x0 x1 = some r) : PCalls Try.prog 27 [.sl 1 (mp cLEdge x0) .lent, .sl 1 (mp cLEdge x1) .lent] (.v (.bool r)) := by
  unfold ref18_SameWays at h
  refine pcalls is27 na27 ?_
  try simp -implicitDefEqProofs
  refine go_seq ?_
  refine go_reg ?_
  try simp -implicitDefEqProofs
  repeat (with_reducible refine And.intro (by omega) ?_)
  refine go_seq ?_
  refine go_seq ?_
  refine go_reg ?_
  try simp -implicitDefEqProofs
  repeat (with_reducible refine And.intro (by omega) ?_)
  refine go_cond ?_
  try simp -implicitDefEqProofs
  repeat (with_reducible refine And.intro (by omega) ?_)
  first | with_reducible refine selP_ite h (by first | exact Iff.rfl | omega | (simp; done) | (simp [Pin.eqi, Edge.eqi, Arr3U8.eqi, Lattice.eqi]; done) | fail) ?_ ?_ | with_reducible refine selP_ite2 h (by first | exact Iff.rfl | omega | (simp; done) | (simp [Pin.eqi, Edge.eqi, Arr3U8.eqi, Lattice.eqi]; done) | fail) ?_ ?_ | with_reducible refine selP_ite h (by first | (simp only [Pin.eqi, Edge.eqi, Arr3U8.eqi, Lattice.eqi]; grind) | grind | fail) ?_ ?_ | with_reducible refine selP_ite2 h (by first | (simp only [Pin.eqi, Edge.eqi, Arr3U8.eqi, Lattice.eqi]; grind) | grind | fail) ?_ ?_
  · intro c_1 p_1 h
    refine go_skip ?_
    refine go_seq ?_
    refine go_seq ?_
    refine go_reg ?_
    try simp -implicitDefEqProofs [c_1]
    repeat (with_reducible refine And.intro (by omega) ?_)
    refine go_block ?_
    obtain ⟨rr_18, h, hn_2⟩ := bind_elim h
    refine go_loop (ε := Unit) h 0 (fun e => .inr e) (fun v5__3 => [(⟨.a, .a, .f⟩, .v (.int .i64 v5__3))]) (fun v5__3 => []) (fun v5__3 => []) (fun _ => []) (fun _ => []) (fun _ => []) (wkN_of 0 [] (by simp) (by simp) (by simp) (by simp) (by simp)) ?_ ?_
    · rintro ⟨⟩ hq
      try simp -implicitDefEqProofs
      have h := hn_2
      rw [hq] at h
      try dsimp only at h
      refine go_seq ?_
      refine go_reg ?_
      try simp -implicitDefEqProofs
      repeat (with_reducible refine And.intro (by omega) ?_)
      obtain rfl := Option.some.inj h
      refine go_ret ?_
      simp -implicitDefEqProofs
    · rintro v5__3 o B' E' h hB hE hR
      simp only [ref18_SameWays_L1] at h
      simp -implicitDefEqProofs
      refine go_seq ?_
      refine go_seq ?_
      refine go_reg ?_
      try simp -implicitDefEqProofs
      repeat (with_reducible refine And.intro (by omega) ?_)
      refine go_cond ?_
      try simp -implicitDefEqProofs
      repeat (with_reducible refine And.intro (by omega) ?_)
      first | with_reducible refine selP_ite h (by first | exact Iff.rfl | omega | (simp; done) | (simp [Pin.eqi, Edge.eqi, Arr3U8.eqi, Lattice.eqi]; done) | fail) ?_ ?_ | with_reducible refine selP_ite2 h (by first | exact Iff.rfl | omega | (simp; done) | (simp [Pin.eqi, Edge.eqi, Arr3U8.eqi, Lattice.eqi]; done) | fail) ?_ ?_ | with_reducible refine selP_ite h (by first | (simp only [Pin.eqi, Edge.eqi, Arr3U8.eqi, Lattice.eqi]; grind) | grind | fail) ?_ ?_ | with_reducible refine selP_ite2 h (by first | (simp only [Pin.eqi, Edge.eqi, Arr3U8.eqi, Lattice.eqi]; grind) | grind | fail) ?_ ?_
      · intro c_4 p_4 h
        refine go_skip ?_
        refine go_seq ?_
        refine go_block ?_
        refine go_seq ?_
        refine go_reg ?_
        obtain ⟨⟨c_6, c_7⟩, h⟩ := chk_elim h
        have k_8 := toNat_lt c_6 c_7
        obtain ⟨⟨c_10, c_11⟩, h⟩ := chk_elim h
        have k_12 := toNat_lt c_10 c_11
        obtain ⟨w27_13, hc, h⟩ := bind_elim h
        try simp -implicitDefEqProofs [c_4, c_6, k_8, c_11, k_12]
        repeat (with_reducible refine And.intro (by omega) ?_)
        refine runC_t (link_ref18_SameEdges hc) (by simp) ?_
        try simp -implicitDefEqProofs
        repeat (with_reducible refine And.intro (by omega) ?_)
        refine go_cond ?_
        try simp -implicitDefEqProofs
        repeat (with_reducible refine And.intro (by omega) ?_)
        first | with_reducible refine selP_ite h (by first | exact Iff.rfl | omega | (simp; done) | (simp; done) | fail) ?_ ?_ | with_reducible refine selP_ite2 h (by first | exact Iff.rfl | omega | (simp; done) | (simp [Pin.eqi, Edge.eqi, Arr3U8.eqi, Lattice.eqi]; done) | fail) ?_ ?_ | with_reducible refine selP_ite h (by first | (simp only [Pin.eqi, Edge.eqi, Arr3U8.eqi, Lattice.eqi]; grind) | grind | fail) ?_ ?_ | with_reducible refine selP_ite2 h (by first | (simp only [Pin.eqi, Edge.eqi, Arr3U8.eqi, Lattice.eqi]; grind) | grind | fail) ?_ ?_
        · intro c_14 p_14 h
          refine go_skip ?_
          refine go_b ?_
          refine go_reg ?_
          obtain ⟨⟨c_16, c_17⟩, h⟩ := chk_elim h
          try simp -implicitDefEqProofs [c_14, c_16, c_17]
          repeat (with_reducible refine And.intro (by omega) ?_)
          refine go_l ?_
          exact hB _ _ (Option.some.inj h).symm (wkN_of 0 [] (by simp) (by simp) (by simp) (by simp) (by simp))
        · intro c_14 p_14 h
          have q_14 := eq_false_of_ne_true c_14
          refine go_seq ?_
          refine go_reg ?_
          try simp -implicitDefEqProofs [p_14]
          repeat (with_reducible refine And.intro (by omega) ?_)
          obtain rfl := hR _ (Option.some.inj h).symm
          try dsimp only at hn_2
          have h := hn_2
          obtain rfl := Option.some.inj h
          refine go_ret ?_
          simp -implicitDefEqProofs
      · intro c_4 p_4 h
        refine go_exit ?_
        simp -implicitDefEqProofs
        exact hE _ _ (Option.some.inj h).symm (wkN_of 0 [] (by simp [c_4]) (by simp) (by simp) (by simp) (by simp))
  · intro c_1 p_1 h
    refine go_seq ?_
    refine go_reg ?_
    try simp -implicitDefEqProofs [c_1]
    repeat (with_reducible refine And.intro (by omega) ?_)
    obtain rfl := Option.some.inj h
    refine go_ret ?_
    simp -implicitDefEqProofs
def pin_Valid_L1 (x0 : List Pin) : (Int × Int) → Option ((Int × Int) ⊕ (Bool ⊕ Int)) := fun (v5__2, v10__3) =>
  if v10__3 < (x0.length : Int) then (
    chk (0 ≤ v10__3 ∧ v10__3 < (x0.length : Int)) <|
    (
      (
        if (at' x0 v10__3).From < v5__2 then (
          some true
        ) else (
          if (at' x0 v10__3).To ≤ (at' x0 v10__3).From then (
            some true
          ) else (
            if (at' x0 v10__3).Word < (-1) then (
              some true
            ) else (
              some (decide (200 ≤ (at' x0 v10__3).Word))
            )
          )
        )
      : Option (Bool))
    ).bind fun v34_10 =>
    if v34_10 = true then (
      some (.inr (.inl false))
    ) else (
      chk (-9223372036854775808 ≤ v10__3 + 1 ∧ v10__3 + 1 ≤ 9223372036854775807) <|
      some (.inl ((at' x0 v10__3).To, v10__3 + 1))
    )
  ) else (
    some (.inr (.inr v5__2))
  )
def pin_Valid (x0 : List Pin) (x1 : Int) : Option Bool :=
  (loop (pin_Valid_L1 x0) (0, 0)).bind fun
  | .inl e => some e
  | .inr v5_4 =>
  (
    (
      if 0 ≤ x1 then (
        if x1 ≤ 40 then (
          some (decide (v5_4 ≤ x1))
        ) else (
          some false
        )
      ) else (
        some false
      )
    : Option (Bool))
  ).bind fun v4_19 =>
  some v4_19
theorem link_pin_Valid {x0 : List Pin} {x1 : Int} {r : Bool} (h : pin_Valid x0 x1 = some r) : PCalls Try.prog 28 [.sl 3 (mp cPin x0) .lent, .v (.int .i64 x1)] (.v (.bool r)) := by
  unfold pin_Valid at h
  refine pcalls is28 na28 ?_
  try simp -implicitDefEqProofs
  refine go_seq ?_
  refine go_reg ?_
  try simp -implicitDefEqProofs
  repeat (with_reducible refine And.intro (by omega) ?_)
  refine go_seq ?_
  refine go_reg ?_
  try simp -implicitDefEqProofs
  repeat (with_reducible refine And.intro (by omega) ?_)
  refine go_seq ?_
  refine go_seq ?_
  refine go_reg ?_
  try simp -implicitDefEqProofs
  repeat (with_reducible refine And.intro (by omega) ?_)
  refine go_block ?_
  obtain ⟨rr_23, h, hn_1⟩ := bind_elim h
  refine go_loop (ε := Int) h 0 (fun e => .inr e) (fun (v5__2, v10__3) => [(⟨.a, .a, .f⟩, .v (.int .i64 v5__2)), (⟨.a, .b, .c⟩, .v (.int .i64 v10__3))]) (fun (v5__2, v10__3) => []) (fun (v5__2, v10__3) => []) (fun v5_4 => [(⟨.a, .a, .f⟩, .v (.int .i64 v5_4))]) (fun v5_4 => []) (fun v5_4 => []) (wkN_of 0 [] (by simp) (by simp) (by simp) (by simp) (by simp)) ?_ ?_
  · rintro v5_4 hq
    try simp -implicitDefEqProofs
    have h := hn_1
    rw [hq] at h
    try dsimp only at h
    refine go_seq ?_
    refine go_reg ?_
    refine run_join h [⟨.a, .a, .e⟩, ⟨.a, .e, .g⟩, ⟨.a, .e, .h⟩, ⟨.a, .f, .a⟩, ⟨.a, .f, .b⟩, ⟨.a, .f, .c⟩, ⟨.a, .f, .d⟩, ⟨.a, .f, .e⟩, ⟨.a, .f, .f⟩, ⟨.a, .f, .g⟩, ⟨.a, .f, .h⟩, ⟨.a, .g, .a⟩] (fun v4_19 => [(⟨.a, .a, .e⟩, .v (.bool v4_19))]) (fun v4_19 => []) (fun v4_19 => []) (by repeat (first | exact soft_c | refine soft_b ?_)) ?_ ?_
    · rintro v4_19 h
      try dsimp only at h
      try simp -implicitDefEqProofs
      obtain rfl := Option.some.inj h
      refine go_ret ?_
      simp -implicitDefEqProofs
    · intro v E h hJ
      try simp -implicitDefEqProofs
      repeat (with_reducible refine And.intro (by omega) ?_)
      first | with_reducible refine selP_ite h (by first | exact Iff.rfl | omega | (simp; done) | (simp [Pin.eqi, Edge.eqi, Arr3U8.eqi, Lattice.eqi]; done) | fail) ?_ ?_ | with_reducible refine selP_ite2 h (by first | exact Iff.rfl | omega | (simp; done) | (simp [Pin.eqi, Edge.eqi, Arr3U8.eqi, Lattice.eqi]; done) | fail) ?_ ?_ | with_reducible refine selP_ite h (by first | (simp only [Pin.eqi, Edge.eqi, Arr3U8.eqi, Lattice.eqi]; grind) | grind | fail) ?_ ?_ | with_reducible refine selP_ite2 h (by first | (simp only [Pin.eqi, Edge.eqi, Arr3U8.eqi, Lattice.eqi]; grind) | grind | fail) ?_ ?_
      · intro c_21 p_21 h
        try simp -implicitDefEqProofs [c_21]
        repeat (with_reducible refine And.intro (by omega) ?_)
        first | with_reducible refine selP_ite h (by first | exact Iff.rfl | omega | (simp; done) | (simp [Pin.eqi, Edge.eqi, Arr3U8.eqi, Lattice.eqi]; done) | fail) ?_ ?_ | with_reducible refine selP_ite2 h (by first | exact Iff.rfl | omega | (simp; done) | (simp [Pin.eqi, Edge.eqi, Arr3U8.eqi, Lattice.eqi]; done) | fail) ?_ ?_ | with_reducible refine selP_ite h (by first | (simp only [Pin.eqi, Edge.eqi, Arr3U8.eqi, Lattice.eqi]; grind) | grind | fail) ?_ ?_ | with_reducible refine selP_ite2 h (by first | (simp only [Pin.eqi, Edge.eqi, Arr3U8.eqi, Lattice.eqi]; grind) | grind | fail) ?_ ?_
        · intro c_22 p_22 h
          try simp -implicitDefEqProofs [c_22]
          repeat (with_reducible refine And.intro (by omega) ?_)
          refine go_l ?_
          obtain rfl := Option.some.inj h
          exact hJ _ (wkN_of 0 [] (by simp) (by simp) (by simp) (by simp) (by simp))
        · intro c_22 p_22 h
          try simp -implicitDefEqProofs [c_22]
          repeat (with_reducible refine And.intro (by omega) ?_)
          refine go_l ?_
          obtain rfl := Option.some.inj h
          exact hJ _ (wkN_of 0 [] (by simp) (by simp) (by simp) (by simp) (by simp))
      · intro c_21 p_21 h
        try simp -implicitDefEqProofs [c_21]
        repeat (with_reducible refine And.intro (by omega) ?_)
        refine go_l ?_
        obtain rfl := Option.some.inj h
        exact hJ _ (wkN_of 0 [] (by simp) (by simp) (by simp) (by simp) (by simp))
  · rintro ⟨v5__2, v10__3⟩ o B' E' h hB hE hR
    simp only [pin_Valid_L1] at h
    simp -implicitDefEqProofs
    refine go_seq ?_
    refine go_reg ?_
    try simp -implicitDefEqProofs
    repeat (with_reducible refine And.intro (by omega) ?_)
    refine go_seq ?_
    refine go_cond ?_
    try simp -implicitDefEqProofs
    repeat (with_reducible refine And.intro (by omega) ?_)
    first | with_reducible refine selP_ite h (by first | exact Iff.rfl | omega | (simp; done) | (simp [Pin.eqi, Edge.eqi, Arr3U8.eqi, Lattice.eqi]; done) | fail) ?_ ?_ | with_reducible refine selP_ite2 h (by first | exact Iff.rfl | omega | (simp; done) | (simp [Pin.eqi, Edge.eqi, Arr3U8.eqi, Lattice.eqi]; done) | fail) ?_ ?_ | with_reducible refine selP_ite h (by first | (simp only [Pin.eqi, Edge.eqi, Arr3U8.eqi, Lattice.eqi]; grind) | grind | fail) ?_ ?_ | with_reducible refine selP_ite2 h (by first | (simp only [Pin.eqi, Edge.eqi, Arr3U8.eqi, Lattice.eqi]; grind) | grind | fail) ?_ ?_
    · intro c_5 p_5 h
      refine go_skip ?_
      refine go_seq ?_
      refine go_block ?_
      refine go_seq ?_
      refine go_reg ?_
      obtain ⟨⟨c_7, c_8⟩, h⟩ := chk_elim h
      have k_9 := toNat_lt c_7 c_8
      try simp -implicitDefEqProofs [c_5, c_7, k_9]
      repeat (with_reducible refine And.intro (by omega) ?_)
      refine go_seq ?_
      refine go_seq ?_
      refine go_reg ?_
      refine run_join h [⟨.a, .b, .g⟩, ⟨.a, .b, .h⟩, ⟨.a, .c, .a⟩, ⟨.a, .c, .b⟩, ⟨.a, .c, .c⟩, ⟨.a, .c, .d⟩, ⟨.a, .c, .e⟩, ⟨.a, .c, .f⟩, ⟨.a, .c, .g⟩, ⟨.a, .c, .h⟩, ⟨.a, .d, .a⟩, ⟨.a, .d, .b⟩, ⟨.a, .d, .c⟩, ⟨.a, .d, .d⟩, ⟨.a, .d, .e⟩, ⟨.a, .d, .f⟩, ⟨.a, .d, .g⟩, ⟨.a, .d, .h⟩, ⟨.a, .e, .a⟩, ⟨.a, .e, .b⟩, ⟨.a, .e, .c⟩] (fun v34_10 => [(⟨.a, .e, .c⟩, .v (.bool v34_10))]) (fun v34_10 => [[.v (.int .i64 ((at' x0 v10__3).From)), .v (.int .i64 ((at' x0 v10__3).To)), .v (.int .i64 ((at' x0 v10__3).Word))]]) (fun v34_10 => []) (by repeat (first | exact soft_c | refine soft_b ?_)) ?_ ?_
      · rintro v34_10 h
        try dsimp only at h
        try simp -implicitDefEqProofs
        refine go_cond ?_
        try simp -implicitDefEqProofs
        repeat (with_reducible refine And.intro (by omega) ?_)
        first | with_reducible refine selP_ite h (by first | exact Iff.rfl | omega | (simp; done) | (simp [Pin.eqi, Edge.eqi, Arr3U8.eqi, Lattice.eqi]; done) | fail) ?_ ?_ | with_reducible refine selP_ite2 h (by first | exact Iff.rfl | omega | (simp; done) | (simp [Pin.eqi, Edge.eqi, Arr3U8.eqi, Lattice.eqi]; done) | fail) ?_ ?_ | with_reducible refine selP_ite h (by first | (simp only [Pin.eqi, Edge.eqi, Arr3U8.eqi, Lattice.eqi]; grind) | grind | fail) ?_ ?_ | with_reducible refine selP_ite2 h (by first | (simp only [Pin.eqi, Edge.eqi, Arr3U8.eqi, Lattice.eqi]; grind) | grind | fail) ?_ ?_
        · intro c_15 p_15 h
          refine go_seq ?_
          refine go_reg ?_
          try simp -implicitDefEqProofs [c_15]
          repeat (with_reducible refine And.intro (by omega) ?_)
          obtain rfl := hR _ (Option.some.inj h).symm
          try dsimp only at hn_1
          have h := hn_1
          obtain rfl := Option.some.inj h
          refine go_ret ?_
          simp -implicitDefEqProofs
        · intro c_15 p_15 h
          have q_15 := eq_false_of_ne_true c_15
          refine go_skip ?_
          refine go_reg ?_
          try simp -implicitDefEqProofs [q_15]
          repeat (with_reducible refine And.intro (by omega) ?_)
          refine go_b ?_
          refine go_reg ?_
          obtain ⟨⟨c_17, c_18⟩, h⟩ := chk_elim h
          try simp -implicitDefEqProofs [c_17, c_18]
          repeat (with_reducible refine And.intro (by omega) ?_)
          refine go_l ?_
          exact hB _ _ (Option.some.inj h).symm (wkN_of 0 [] (by simp) (by simp) (by simp) (by simp) (by simp))
      · intro v E h hJ
        try simp -implicitDefEqProofs
        repeat (with_reducible refine And.intro (by omega) ?_)
        first | with_reducible refine selP_ite h (by first | exact Iff.rfl | omega | (simp; done) | (simp [Pin.eqi, Edge.eqi, Arr3U8.eqi, Lattice.eqi]; done) | fail) ?_ ?_ | with_reducible refine selP_ite2 h (by first | exact Iff.rfl | omega | (simp; done) | (simp [Pin.eqi, Edge.eqi, Arr3U8.eqi, Lattice.eqi]; done) | fail) ?_ ?_ | with_reducible refine selP_ite h (by first | (simp only [Pin.eqi, Edge.eqi, Arr3U8.eqi, Lattice.eqi]; grind) | grind | fail) ?_ ?_ | with_reducible refine selP_ite2 h (by first | (simp only [Pin.eqi, Edge.eqi, Arr3U8.eqi, Lattice.eqi]; grind) | grind | fail) ?_ ?_
        · intro c_12 p_12 h
          try simp -implicitDefEqProofs [c_12]
          repeat (with_reducible refine And.intro (by omega) ?_)
          refine go_l ?_
          obtain rfl := Option.some.inj h
          exact hJ _ (wkN_of 0 [] (by simp) (by simp) (by simp) (by simp) (by simp))
        · intro c_12 p_12 h
          try simp -implicitDefEqProofs [c_12]
          repeat (with_reducible refine And.intro (by omega) ?_)
          first | with_reducible refine selP_ite h (by first | exact Iff.rfl | omega | (simp; done) | (simp [Pin.eqi, Edge.eqi, Arr3U8.eqi, Lattice.eqi]; done) | fail) ?_ ?_ | with_reducible refine selP_ite2 h (by first | exact Iff.rfl | omega | (simp; done) | (simp [Pin.eqi, Edge.eqi, Arr3U8.eqi, Lattice.eqi]; done) | fail) ?_ ?_ | with_reducible refine selP_ite h (by first | (simp only [Pin.eqi, Edge.eqi, Arr3U8.eqi, Lattice.eqi]; grind) | grind | fail) ?_ ?_ | with_reducible refine selP_ite2 h (by first | (simp only [Pin.eqi, Edge.eqi, Arr3U8.eqi, Lattice.eqi]; grind) | grind | fail) ?_ ?_
          · intro c_13 p_13 h
            try simp -implicitDefEqProofs [c_13]
            repeat (with_reducible refine And.intro (by omega) ?_)
            refine go_l ?_
            obtain rfl := Option.some.inj h
            exact hJ _ (wkN_of 0 [] (by simp) (by simp) (by simp) (by simp) (by simp))
          · intro c_13 p_13 h
            try simp -implicitDefEqProofs [c_13]
            repeat (with_reducible refine And.intro (by omega) ?_)
            first | with_reducible refine selP_ite h (by first | exact Iff.rfl | omega | (simp; done) | (simp [Pin.eqi, Edge.eqi, Arr3U8.eqi, Lattice.eqi]; done) | fail) ?_ ?_ | with_reducible refine selP_ite2 h (by first | exact Iff.rfl | omega | (simp; done) | (simp [Pin.eqi, Edge.eqi, Arr3U8.eqi, Lattice.eqi]; done) | fail) ?_ ?_ | with_reducible refine selP_ite h (by first | (simp only [Pin.eqi, Edge.eqi, Arr3U8.eqi, Lattice.eqi]; grind) | grind | fail) ?_ ?_ | with_reducible refine selP_ite2 h (by first | (simp only [Pin.eqi, Edge.eqi, Arr3U8.eqi, Lattice.eqi]; grind) | grind | fail) ?_ ?_
            · intro c_14 p_14 h
              try simp -implicitDefEqProofs [c_14]
              repeat (with_reducible refine And.intro (by omega) ?_)
              refine go_l ?_
              obtain rfl := Option.some.inj h
              exact hJ _ (wkN_of 0 [] (by simp) (by simp) (by simp) (by simp) (by simp))
            · intro c_14 p_14 h
              try simp -implicitDefEqProofs [c_14]
              repeat (with_reducible refine And.intro (by omega) ?_)
              refine go_l ?_
              obtain rfl := Option.some.inj h
              exact hJ _ (wkN_of 0 [] (by simp) (by simp) (by simp) (by simp) (by simp))
    · intro c_5 p_5 h
      refine go_exit ?_
      simp -implicitDefEqProofs
      exact hE _ _ (Option.some.inj h).symm (wkN_of 0 [] (by simp [c_5]) (by simp) (by simp) (by simp) (by simp))
def pin_overlap (x0 : Pin) (x1 : Pin) : Option Bool :=
  (
    (
      if x0.From < x1.To then (
        some (decide (x1.From < x0.To))
      ) else (
        some false
      )
    : Option (Bool))
  ).bind fun v4_1 =>
  some v4_1
theorem link_pin_overlap {x0 : Pin} {x1 : Pin} {r : Bool} (h : pin_overlap x0 x1 = some r) : PCalls Try.prog 31 [.agg (cPin x0), .agg (cPin x1)] (.v (.bool r)) := by
  unfold pin_overlap at h
  refine pcalls is31 na31 ?_
  try simp -implicitDefEqProofs
  refine go_seq ?_
  refine go_reg ?_
  try simp -implicitDefEqProofs
  repeat (with_reducible refine And.intro (by omega) ?_)
  refine go_seq ?_
  refine go_reg ?_
  refine run_join h [⟨.a, .a, .e⟩, ⟨.a, .a, .f⟩, ⟨.a, .a, .g⟩, ⟨.a, .a, .h⟩, ⟨.a, .b, .a⟩, ⟨.a, .b, .b⟩, ⟨.a, .b, .c⟩, ⟨.a, .b, .d⟩, ⟨.a, .b, .e⟩, ⟨.a, .b, .f⟩, ⟨.a, .b, .g⟩, ⟨.a, .b, .h⟩, ⟨.a, .c, .a⟩] (fun v4_1 => [(⟨.a, .a, .e⟩, .v (.bool v4_1))]) (fun v4_1 => [[.v (.int .i64 x0.From), .v (.int .i64 x0.To), .v (.int .i64 x0.Word)], [.v (.int .i64 x1.From), .v (.int .i64 x1.To), .v (.int .i64 x1.Word)]]) (fun v4_1 => []) (by repeat (first | exact soft_c | refine soft_b ?_)) ?_ ?_
  · rintro v4_1 h
    try dsimp only at h
    try simp -implicitDefEqProofs
    obtain rfl := Option.some.inj h
    refine go_ret ?_
    simp -implicitDefEqProofs
  · intro v E h hJ
    try simp -implicitDefEqProofs
    repeat (with_reducible refine And.intro (by omega) ?_)
    first | with_reducible refine selP_ite h (by first | exact Iff.rfl | omega | (simp; done) | (simp [Pin.eqi, Edge.eqi, Arr3U8.eqi, Lattice.eqi]; done) | fail) ?_ ?_ | with_reducible refine selP_ite2 h (by first | exact Iff.rfl | omega | (simp; done) | (simp [Pin.eqi, Edge.eqi, Arr3U8.eqi, Lattice.eqi]; done) | fail) ?_ ?_ | with_reducible refine selP_ite h (by first | (simp only [Pin.eqi, Edge.eqi, Arr3U8.eqi, Lattice.eqi]; grind) | grind | fail) ?_ ?_ | with_reducible refine selP_ite2 h (by first | (simp only [Pin.eqi, Edge.eqi, Arr3U8.eqi, Lattice.eqi]; grind) | grind | fail) ?_ ?_
    · intro c_3 p_3 h
      try simp -implicitDefEqProofs [c_3]
      repeat (with_reducible refine And.intro (by omega) ?_)
      refine go_l ?_
      obtain rfl := Option.some.inj h
      exact hJ _ (wkN_of 0 [] (by simp) (by simp) (by simp) (by simp) (by simp))
    · intro c_3 p_3 h
      try simp -implicitDefEqProofs [c_3]
      repeat (with_reducible refine And.intro (by omega) ?_)
      refine go_l ?_
      obtain rfl := Option.some.inj h
      exact hJ _ (wkN_of 0 [] (by simp) (by simp) (by simp) (by simp) (by simp))
def pin_against (x0 : Edge) (x1 : Pin) : Option Bool :=
  if x1 = (⟨x0.From, x0.To, x1.Word⟩ : Pin) then (
    (
      (
        if x1.Word = (-1) then (
          some false
        ) else (
          some (!decide (x1.Word = x0.Word))
        )
      : Option (Bool))
    ).bind fun v4_2 =>
    some v4_2
  ) else (
    (pin_overlap x1 (⟨x0.From, x0.To, x1.Word⟩ : Pin)).bind fun w28_5 =>
    some w28_5
  )
theorem link_pin_against {x0 : Edge} {x1 : Pin} {r : Bool} (h : pin_against x0 x1 = some r) : PCalls Try.prog 38 [.agg (cEdge x0), .agg (cPin x1)] (.v (.bool r)) := by
  unfold pin_against at h
  refine pcalls is38 na38 ?_
  try simp -implicitDefEqProofs
  refine go_seq ?_
  refine go_reg ?_
  try simp -implicitDefEqProofs
  repeat (with_reducible refine And.intro (by omega) ?_)
  refine go_seq ?_
  refine go_reg ?_
  try simp -implicitDefEqProofs
  repeat (with_reducible refine And.intro (by omega) ?_)
  refine go_seq ?_
  refine go_seq ?_
  refine go_reg ?_
  try simp -implicitDefEqProofs
  repeat (with_reducible refine And.intro (by omega) ?_)
  refine go_cond ?_
  try simp -implicitDefEqProofs
  repeat (with_reducible refine And.intro (by omega) ?_)
  first | with_reducible refine selP_ite h (by first | exact Iff.rfl | omega | (simp; done) | (simp [Pin.eqi]; done) | fail) ?_ ?_ | with_reducible refine selP_ite2 h (by first | exact Iff.rfl | omega | (simp; done) | (simp [Pin.eqi, Edge.eqi, Arr3U8.eqi, Lattice.eqi]; done) | fail) ?_ ?_ | with_reducible refine selP_ite h (by first | (simp only [Pin.eqi, Edge.eqi, Arr3U8.eqi, Lattice.eqi]; grind) | grind | fail) ?_ ?_ | with_reducible refine selP_ite2 h (by first | (simp only [Pin.eqi, Edge.eqi, Arr3U8.eqi, Lattice.eqi]; grind) | grind | fail) ?_ ?_
  · intro c_1 p_1 h
    refine go_seq ?_
    refine go_reg ?_
    refine run_join h [⟨.a, .a, .e⟩, ⟨.a, .c, .a⟩, ⟨.a, .c, .b⟩, ⟨.a, .c, .c⟩, ⟨.a, .c, .d⟩, ⟨.a, .c, .e⟩, ⟨.a, .c, .f⟩, ⟨.a, .c, .g⟩, ⟨.a, .c, .h⟩, ⟨.a, .d, .a⟩, ⟨.a, .d, .b⟩] (fun v4_2 => [(⟨.a, .a, .e⟩, .v (.bool v4_2))]) (fun v4_2 => [[.v (.int .i64 x0.From), .v (.int .i64 x0.To), .v (.int .i64 x0.Word), .v (.int .i64 x0.Cost)], [.v (.int .i64 x1.From), .v (.int .i64 x1.To), .v (.int .i64 x1.Word)], [.v (.int .i64 x0.From), .v (.int .i64 x0.To), .v (.int .i64 x1.Word)]]) (fun v4_2 => []) (by repeat (first | exact soft_c | refine soft_b ?_)) ?_ ?_
    · rintro v4_2 h
      try dsimp only at h
      try simp -implicitDefEqProofs
      obtain rfl := Option.some.inj h
      refine go_ret ?_
      simp -implicitDefEqProofs [p_1]
    · intro v E h hJ
      try simp -implicitDefEqProofs [p_1]
      repeat (with_reducible refine And.intro (by omega) ?_)
      first | with_reducible refine selP_ite h (by first | exact Iff.rfl | omega | (simp; done) | (simp [Pin.eqi, Edge.eqi, Arr3U8.eqi, Lattice.eqi]; done) | fail) ?_ ?_ | with_reducible refine selP_ite2 h (by first | exact Iff.rfl | omega | (simp; done) | (simp [Pin.eqi, Edge.eqi, Arr3U8.eqi, Lattice.eqi]; done) | fail) ?_ ?_ | with_reducible refine selP_ite h (by first | (simp only [Pin.eqi, Edge.eqi, Arr3U8.eqi, Lattice.eqi]; grind) | grind | fail) ?_ ?_ | with_reducible refine selP_ite2 h (by first | (simp only [Pin.eqi, Edge.eqi, Arr3U8.eqi, Lattice.eqi]; grind) | grind | fail) ?_ ?_
      · intro c_4 p_4 h
        try simp -implicitDefEqProofs [c_4]
        repeat (with_reducible refine And.intro (by omega) ?_)
        refine go_l ?_
        obtain rfl := Option.some.inj h
        exact hJ _ (wkN_of 0 [] (by simp [p_1, c_4]) (by simp [p_1, c_4]) (by simp) (by simp) (by simp))
      · intro c_4 p_4 h
        try simp -implicitDefEqProofs [c_4]
        repeat (with_reducible refine And.intro (by omega) ?_)
        refine go_l ?_
        obtain rfl := Option.some.inj h
        exact hJ _ (wkN_of 0 [] (by simp [p_1]) (by simp [p_1]) (by simp) (by simp) (by simp))
  · intro c_1 p_1 h
    refine go_skip ?_
    refine go_seq ?_
    refine go_reg ?_
    obtain ⟨w28_5, hc, h⟩ := bind_elim h
    try simp -implicitDefEqProofs
    repeat (with_reducible refine And.intro (by omega) ?_)
    refine runC_t (link_pin_overlap hc) (by simp) ?_
    try simp -implicitDefEqProofs
    repeat (with_reducible refine And.intro (by omega) ?_)
    obtain rfl := Option.some.inj h
    refine go_ret ?_
    simp -implicitDefEqProofs
def cmp_Compare (x0 : Int) (x1 : Int) : Option Int :=
  (cmp_isNaN x0).bind fun w8_1 =>
  (cmp_isNaN x1).bind fun w10_2 =>
  if w8_1 = true then (
    if w10_2 = true then (
      some 0
    ) else (
      some (-1)
    )
  ) else (
    if w10_2 = true then (
      some 1
    ) else (
      if x0 < x1 then (
        some (-1)
      ) else (
        if x1 < x0 then (
          some 1
        ) else (
          some 0
        )
      )
    )
  )
theorem link_cmp_Compare {x0 : Int} {x1 : Int} {r : Int} (h : cmp_Compare x0 x1 = some r) : PCalls Try.prog 34 [.v (.int .i64 x0), .v (.int .i64 x1)] (.v (.int .i64 r)) := by
  unfold cmp_Compare at h
  refine pcalls is34 na34 ?_
  try simp -implicitDefEqProofs
  refine go_seq ?_
  refine go_reg ?_
  try simp -implicitDefEqProofs
  repeat (with_reducible refine And.intro (by omega) ?_)
  refine go_seq ?_
  refine go_reg ?_
  obtain ⟨w8_1, hc, h⟩ := bind_elim h
  try simp -implicitDefEqProofs
  repeat (with_reducible refine And.intro (by omega) ?_)
  refine runC_t (link_cmp_isNaN hc) (by simp) ?_
  try simp -implicitDefEqProofs
  repeat (with_reducible refine And.intro (by omega) ?_)
  refine go_seq ?_
  refine go_reg ?_
  obtain ⟨w10_2, hc, h⟩ := bind_elim h
  try simp -implicitDefEqProofs
  repeat (with_reducible refine And.intro (by omega) ?_)
  refine runC_t (link_cmp_isNaN hc) (by simp) ?_
  try simp -implicitDefEqProofs
  repeat (with_reducible refine And.intro (by omega) ?_)
  refine go_seq ?_
  refine go_seq ?_
  refine go_reg ?_
  try simp -implicitDefEqProofs
  repeat (with_reducible refine And.intro (by omega) ?_)
  refine go_cond ?_
  try simp -implicitDefEqProofs
  repeat (with_reducible refine And.intro (by omega) ?_)
  first | with_reducible refine selP_ite h (by first | exact Iff.rfl | omega | (simp; done) | (simp [Pin.eqi, Edge.eqi, Arr3U8.eqi, Lattice.eqi]; done) | fail) ?_ ?_ | with_reducible refine selP_ite2 h (by first | exact Iff.rfl | omega | (simp; done) | (simp [Pin.eqi, Edge.eqi, Arr3U8.eqi, Lattice.eqi]; done) | fail) ?_ ?_ | with_reducible refine selP_ite h (by first | (simp only [Pin.eqi, Edge.eqi, Arr3U8.eqi, Lattice.eqi]; grind) | grind | fail) ?_ ?_ | with_reducible refine selP_ite2 h (by first | (simp only [Pin.eqi, Edge.eqi, Arr3U8.eqi, Lattice.eqi]; grind) | grind | fail) ?_ ?_
  · intro c_3 p_3 h
    refine go_seq ?_
    refine go_seq ?_
    refine go_reg ?_
    try simp -implicitDefEqProofs [c_3]
    repeat (with_reducible refine And.intro (by omega) ?_)
    refine go_cond ?_
    try simp -implicitDefEqProofs
    repeat (with_reducible refine And.intro (by omega) ?_)
    first | with_reducible refine selP_ite h (by first | exact Iff.rfl | omega | (simp; done) | (simp [Pin.eqi, Edge.eqi, Arr3U8.eqi, Lattice.eqi]; done) | fail) ?_ ?_ | with_reducible refine selP_ite2 h (by first | exact Iff.rfl | omega | (simp; done) | (simp [Pin.eqi, Edge.eqi, Arr3U8.eqi, Lattice.eqi]; done) | fail) ?_ ?_ | with_reducible refine selP_ite h (by first | (simp only [Pin.eqi, Edge.eqi, Arr3U8.eqi, Lattice.eqi]; grind) | grind | fail) ?_ ?_ | with_reducible refine selP_ite2 h (by first | (simp only [Pin.eqi, Edge.eqi, Arr3U8.eqi, Lattice.eqi]; grind) | grind | fail) ?_ ?_
    · intro c_4 p_4 h
      refine go_seq ?_
      refine go_reg ?_
      try simp -implicitDefEqProofs [c_4]
      repeat (with_reducible refine And.intro (by omega) ?_)
      obtain rfl := Option.some.inj h
      refine go_ret ?_
      simp -implicitDefEqProofs
    · intro c_4 p_4 h
      have q_4 := eq_false_of_ne_true c_4
      refine go_skip ?_
      refine go_seq ?_
      refine go_reg ?_
      try simp -implicitDefEqProofs [q_4]
      repeat (with_reducible refine And.intro (by omega) ?_)
      obtain rfl := Option.some.inj h
      refine go_ret ?_
      simp -implicitDefEqProofs
  · intro c_3 p_3 h
    have q_3 := eq_false_of_ne_true c_3
    refine go_skip ?_
    refine go_seq ?_
    refine go_seq ?_
    refine go_reg ?_
    try simp -implicitDefEqProofs [q_3]
    repeat (with_reducible refine And.intro (by omega) ?_)
    refine go_cond ?_
    try simp -implicitDefEqProofs
    repeat (with_reducible refine And.intro (by omega) ?_)
    first | with_reducible refine selP_ite h (by first | exact Iff.rfl | omega | (simp; done) | (simp [Pin.eqi, Edge.eqi, Arr3U8.eqi, Lattice.eqi]; done) | fail) ?_ ?_ | with_reducible refine selP_ite2 h (by first | exact Iff.rfl | omega | (simp; done) | (simp [Pin.eqi, Edge.eqi, Arr3U8.eqi, Lattice.eqi]; done) | fail) ?_ ?_ | with_reducible refine selP_ite h (by first | (simp only [Pin.eqi, Edge.eqi, Arr3U8.eqi, Lattice.eqi]; grind) | grind | fail) ?_ ?_ | with_reducible refine selP_ite2 h (by first | (simp only [Pin.eqi, Edge.eqi, Arr3U8.eqi, Lattice.eqi]; grind) | grind | fail) ?_ ?_
    · intro c_5 p_5 h
      refine go_seq ?_
      refine go_reg ?_
      try simp -implicitDefEqProofs [c_5]
      repeat (with_reducible refine And.intro (by omega) ?_)
      obtain rfl := Option.some.inj h
      refine go_ret ?_
      simp -implicitDefEqProofs
    · intro c_5 p_5 h
      have q_5 := eq_false_of_ne_true c_5
      refine go_skip ?_
      refine go_seq ?_
      refine go_seq ?_
      refine go_reg ?_
      try simp -implicitDefEqProofs [q_5]
      repeat (with_reducible refine And.intro (by omega) ?_)
      refine go_cond ?_
      try simp -implicitDefEqProofs
      repeat (with_reducible refine And.intro (by omega) ?_)
      first | with_reducible refine selP_ite h (by first | exact Iff.rfl | omega | (simp; done) | (simp [Pin.eqi, Edge.eqi, Arr3U8.eqi, Lattice.eqi]; done) | fail) ?_ ?_ | with_reducible refine selP_ite2 h (by first | exact Iff.rfl | omega | (simp; done) | (simp [Pin.eqi, Edge.eqi, Arr3U8.eqi, Lattice.eqi]; done) | fail) ?_ ?_ | with_reducible refine selP_ite h (by first | (simp only [Pin.eqi, Edge.eqi, Arr3U8.eqi, Lattice.eqi]; grind) | grind | fail) ?_ ?_ | with_reducible refine selP_ite2 h (by first | (simp only [Pin.eqi, Edge.eqi, Arr3U8.eqi, Lattice.eqi]; grind) | grind | fail) ?_ ?_
      · intro c_6 p_6 h
        refine go_seq ?_
        refine go_reg ?_
        try simp -implicitDefEqProofs [c_6]
        repeat (with_reducible refine And.intro (by omega) ?_)
        obtain rfl := Option.some.inj h
        refine go_ret ?_
        simp -implicitDefEqProofs
      · intro c_6 p_6 h
        refine go_skip ?_
        refine go_seq ?_
        refine go_seq ?_
        refine go_reg ?_
        try simp -implicitDefEqProofs [c_6]
        repeat (with_reducible refine And.intro (by omega) ?_)
        refine go_cond ?_
        try simp -implicitDefEqProofs
        repeat (with_reducible refine And.intro (by omega) ?_)
        first | with_reducible refine selP_ite h (by first | exact Iff.rfl | omega | (simp; done) | (simp [Pin.eqi, Edge.eqi, Arr3U8.eqi, Lattice.eqi]; done) | fail) ?_ ?_ | with_reducible refine selP_ite2 h (by first | exact Iff.rfl | omega | (simp; done) | (simp [Pin.eqi, Edge.eqi, Arr3U8.eqi, Lattice.eqi]; done) | fail) ?_ ?_ | with_reducible refine selP_ite h (by first | (simp only [Pin.eqi, Edge.eqi, Arr3U8.eqi, Lattice.eqi]; grind) | grind | fail) ?_ ?_ | with_reducible refine selP_ite2 h (by first | (simp only [Pin.eqi, Edge.eqi, Arr3U8.eqi, Lattice.eqi]; grind) | grind | fail) ?_ ?_
        · intro c_7 p_7 h
          refine go_seq ?_
          refine go_reg ?_
          try simp -implicitDefEqProofs [c_7]
          repeat (with_reducible refine And.intro (by omega) ?_)
          obtain rfl := Option.some.inj h
          refine go_ret ?_
          simp -implicitDefEqProofs
        · intro c_7 p_7 h
          refine go_skip ?_
          refine go_seq ?_
          refine go_reg ?_
          try simp -implicitDefEqProofs [c_7]
          repeat (with_reducible refine And.intro (by omega) ?_)
          obtain rfl := Option.some.inj h
          refine go_ret ?_
          simp -implicitDefEqProofs
def pin_Put_1 (x0 : Pin) (x1 : Pin) : Option Bool :=
  (pin_overlap x1 x0).bind fun w6_1 =>
  some w6_1
theorem link_pin_Put_1 {x0 : Pin} {x1 : Pin} {r : Bool} (h : pin_Put_1 x0 x1 = some r) : PCalls Try.prog 30 [.agg (cPin x0), .pt [.v (.int .i64 x1.From), .v (.int .i64 x1.To), .v (.int .i64 x1.Word)]] (.v (.bool r)) := by
  unfold pin_Put_1 at h
  refine pcalls is30 na30 ?_
  try simp -implicitDefEqProofs
  refine go_seq ?_
  refine go_reg ?_
  try simp -implicitDefEqProofs
  repeat (with_reducible refine And.intro (by omega) ?_)
  refine go_seq ?_
  refine go_reg ?_
  obtain ⟨w6_1, hc, h⟩ := bind_elim h
  try simp -implicitDefEqProofs
  repeat (with_reducible refine And.intro (by omega) ?_)
  refine runC_t (link_pin_overlap hc) (by simp) ?_
  try simp -implicitDefEqProofs
  repeat (with_reducible refine And.intro (by omega) ?_)
  obtain rfl := Option.some.inj h
  refine go_ret ?_
  simp -implicitDefEqProofs
def pin_Put_2 (x0 : Pin) (x1 : Pin) : Option Int :=
  (cmp_Compare x0.From x1.From).bind fun w9_1 =>
  some w9_1
theorem link_pin_Put_2 {x0 : Pin} {x1 : Pin} {r : Int} (h : pin_Put_2 x0 x1 = some r) : PCalls Try.prog 33 [.agg (cPin x0), .agg (cPin x1)] (.v (.int .i64 r)) := by
  unfold pin_Put_2 at h
  refine pcalls is33 na33 ?_
  try simp -implicitDefEqProofs
  refine go_seq ?_
  refine go_reg ?_
  try simp -implicitDefEqProofs
  repeat (with_reducible refine And.intro (by omega) ?_)
  refine go_seq ?_
  refine go_reg ?_
  obtain ⟨w9_1, hc, h⟩ := bind_elim h
  try simp -implicitDefEqProofs
  repeat (with_reducible refine And.intro (by omega) ?_)
  refine runC_t (link_cmp_Compare hc) (by simp) ?_
  try simp -implicitDefEqProofs
  repeat (with_reducible refine And.intro (by omega) ?_)
  obtain rfl := Option.some.inj h
  refine go_ret ?_
  simp -implicitDefEqProofs
def pin_Restrict_1 (x0 : Pin) (x1 : Edge) : Option Bool :=
  (pin_against x1 x0).bind fun w6_1 =>
  some w6_1
theorem link_pin_Restrict_1 {x0 : Pin} {x1 : Edge} {r : Bool} (h : pin_Restrict_1 x0 x1 = some r) : PCalls Try.prog 37 [.agg (cPin x0), .pt [.v (.int .i64 x1.From), .v (.int .i64 x1.To), .v (.int .i64 x1.Word), .v (.int .i64 x1.Cost)]] (.v (.bool r)) := by
  unfold pin_Restrict_1 at h
  refine pcalls is37 na37 ?_
  try simp -implicitDefEqProofs
  refine go_seq ?_
  refine go_reg ?_
  try simp -implicitDefEqProofs
  repeat (with_reducible refine And.intro (by omega) ?_)
  refine go_seq ?_
  refine go_reg ?_
  obtain ⟨w6_1, hc, h⟩ := bind_elim h
  try simp -implicitDefEqProofs
  repeat (with_reducible refine And.intro (by omega) ?_)
  refine runC_t (link_pin_against hc) (by simp) ?_
  try simp -implicitDefEqProofs
  repeat (with_reducible refine And.intro (by omega) ?_)
  obtain rfl := Option.some.inj h
  refine go_ret ?_
  simp -implicitDefEqProofs
def pin_Insert_1 (x0 : Pin) (x1 : Int) : Option Bool :=
  (
    (
      if x0.From < x1 then (
        some (decide (x1 < x0.To))
      ) else (
        some false
      )
    : Option (Bool))
  ).bind fun v3_1 =>
  some v3_1
theorem link_pin_Insert_1 {x0 : Pin} {x1 : Int} {r : Bool} (h : pin_Insert_1 x0 x1 = some r) : PCalls Try.prog 41 [.agg (cPin x0), .pt [.v (.int .i64 x1)]] (.v (.bool r)) := by
  unfold pin_Insert_1 at h
  refine pcalls is41 na41 ?_
  try simp -implicitDefEqProofs
  refine go_seq ?_
  refine go_reg ?_
  try simp -implicitDefEqProofs
  repeat (with_reducible refine And.intro (by omega) ?_)
  refine go_seq ?_
  refine go_reg ?_
  refine run_join h [⟨.a, .a, .d⟩, ⟨.a, .a, .e⟩, ⟨.a, .a, .f⟩, ⟨.a, .a, .g⟩, ⟨.a, .a, .h⟩, ⟨.a, .b, .a⟩, ⟨.a, .b, .b⟩, ⟨.a, .b, .c⟩, ⟨.a, .b, .d⟩, ⟨.a, .b, .e⟩, ⟨.a, .b, .f⟩] (fun v3_1 => [(⟨.a, .a, .d⟩, .v (.bool v3_1))]) (fun v3_1 => [[.v (.int .i64 x0.From), .v (.int .i64 x0.To), .v (.int .i64 x0.Word)]]) (fun v3_1 => []) (by repeat (first | exact soft_c | refine soft_b ?_)) ?_ ?_
  · rintro v3_1 h
    try dsimp only at h
    try simp -implicitDefEqProofs
    obtain rfl := Option.some.inj h
    refine go_ret ?_
    simp -implicitDefEqProofs
  · intro v E h hJ
    try simp -implicitDefEqProofs
    repeat (with_reducible refine And.intro (by omega) ?_)
    first | with_reducible refine selP_ite h (by first | exact Iff.rfl | omega | (simp; done) | (simp [Pin.eqi, Edge.eqi, Arr3U8.eqi, Lattice.eqi]; done) | fail) ?_ ?_ | with_reducible refine selP_ite2 h (by first | exact Iff.rfl | omega | (simp; done) | (simp [Pin.eqi, Edge.eqi, Arr3U8.eqi, Lattice.eqi]; done) | fail) ?_ ?_ | with_reducible refine selP_ite h (by first | (simp only [Pin.eqi, Edge.eqi, Arr3U8.eqi, Lattice.eqi]; grind) | grind | fail) ?_ ?_ | with_reducible refine selP_ite2 h (by first | (simp only [Pin.eqi, Edge.eqi, Arr3U8.eqi, Lattice.eqi]; grind) | grind | fail) ?_ ?_
    · intro c_3 p_3 h
      try simp -implicitDefEqProofs [c_3]
      repeat (with_reducible refine And.intro (by omega) ?_)
      refine go_l ?_
      obtain rfl := Option.some.inj h
      exact hJ _ (wkN_of 0 [] (by simp) (by simp) (by simp) (by simp) (by simp))
    · intro c_3 p_3 h
      try simp -implicitDefEqProofs [c_3]
      repeat (with_reducible refine And.intro (by omega) ?_)
      refine go_l ?_
      obtain rfl := Option.some.inj h
      exact hJ _ (wkN_of 0 [] (by simp) (by simp) (by simp) (by simp) (by simp))
def pin_Delete_1 (x0 : Pin) (x1 : Int) : Option Bool :=
  (
    (
      if x0.From ≤ x1 then (
        some (decide (x1 < x0.To))
      ) else (
        some false
      )
    : Option (Bool))
  ).bind fun v3_1 =>
  some v3_1
theorem link_pin_Delete_1 {x0 : Pin} {x1 : Int} {r : Bool} (h : pin_Delete_1 x0 x1 = some r) : PCalls Try.prog 42 [.agg (cPin x0), .pt [.v (.int .i64 x1)]] (.v (.bool r)) := by
  unfold pin_Delete_1 at h
  refine pcalls is42 na42 ?_
  try simp -implicitDefEqProofs
  refine go_seq ?_
  refine go_reg ?_
  try simp -implicitDefEqProofs
  repeat (with_reducible refine And.intro (by omega) ?_)
  refine go_seq ?_
  refine go_reg ?_
  refine run_join h [⟨.a, .a, .d⟩, ⟨.a, .a, .e⟩, ⟨.a, .a, .f⟩, ⟨.a, .a, .g⟩, ⟨.a, .a, .h⟩, ⟨.a, .b, .a⟩, ⟨.a, .b, .b⟩, ⟨.a, .b, .c⟩, ⟨.a, .b, .d⟩, ⟨.a, .b, .e⟩, ⟨.a, .b, .f⟩] (fun v3_1 => [(⟨.a, .a, .d⟩, .v (.bool v3_1))]) (fun v3_1 => [[.v (.int .i64 x0.From), .v (.int .i64 x0.To), .v (.int .i64 x0.Word)]]) (fun v3_1 => []) (by repeat (first | exact soft_c | refine soft_b ?_)) ?_ ?_
  · rintro v3_1 h
    try dsimp only at h
    try simp -implicitDefEqProofs
    obtain rfl := Option.some.inj h
    refine go_ret ?_
    simp -implicitDefEqProofs
  · intro v E h hJ
    try simp -implicitDefEqProofs
    repeat (with_reducible refine And.intro (by omega) ?_)
    first | with_reducible refine selP_ite h (by first | exact Iff.rfl | omega | (simp; done) | (simp [Pin.eqi, Edge.eqi, Arr3U8.eqi, Lattice.eqi]; done) | fail) ?_ ?_ | with_reducible refine selP_ite2 h (by first | exact Iff.rfl | omega | (simp; done) | (simp [Pin.eqi, Edge.eqi, Arr3U8.eqi, Lattice.eqi]; done) | fail) ?_ ?_ | with_reducible refine selP_ite h (by first | (simp only [Pin.eqi, Edge.eqi, Arr3U8.eqi, Lattice.eqi]; grind) | grind | fail) ?_ ?_ | with_reducible refine selP_ite2 h (by first | (simp only [Pin.eqi, Edge.eqi, Arr3U8.eqi, Lattice.eqi]; grind) | grind | fail) ?_ ?_
    · intro c_3 p_3 h
      try simp -implicitDefEqProofs [c_3]
      repeat (with_reducible refine And.intro (by omega) ?_)
      refine go_l ?_
      obtain rfl := Option.some.inj h
      exact hJ _ (wkN_of 0 [] (by simp) (by simp) (by simp) (by simp) (by simp))
    · intro c_3 p_3 h
      try simp -implicitDefEqProofs [c_3]
      repeat (with_reducible refine And.intro (by omega) ?_)
      refine go_l ?_
      obtain rfl := Option.some.inj h
      exact hJ _ (wkN_of 0 [] (by simp) (by simp) (by simp) (by simp) (by simp))
def slices_IndexFunc_L1 (x0 : List Pin) (x1 : Pin → Option Bool) : Int → Option (Int ⊕ (Int ⊕ Unit)) := fun v8__2 =>
  if v8__2 < (x0.length : Int) then (
    chk (0 ≤ v8__2 ∧ v8__2 < (x0.length : Int)) <|
    (x1 (at' x0 v8__2)).bind fun w16_8 =>
    if w16_8 = true then (
      some (.inr (.inl v8__2))
    ) else (
      chk (-9223372036854775808 ≤ v8__2 + 1 ∧ v8__2 + 1 ≤ 9223372036854775807) <|
      some (.inl (v8__2 + 1))
    )
  ) else (
    some (.inr (.inr ()))
  )
def slices_IndexFunc (x0 : List Pin) (x1 : Pin → Option Bool) : Option Int :=
  (loop (slices_IndexFunc_L1 x0 x1) 0).bind fun
  | .inl e => some e
  | .inr _ =>
  some (-1)
theorem link_slices_IndexFunc {x0 : List Pin} {x1 : Pin → Option Bool} {f1 : FuncId} {cs1 : List PV} (ok1 : callOk Try.prog f1 = true) (cp1 : CapOk cs1) (hx1 : ∀ {a0 : Pin} {r : Bool}, x1 a0 = some r → PCalls Try.prog f1 ([.agg (cPin a0)] ++ cs1) (.v (.bool r))) {r : Int} (h : slices_IndexFunc x0 x1 = some r) : PCalls Try.prog 47 [.sl 3 (mp cPin x0) .lent, .fn f1 cs1] (.v (.int .i64 r)) := by
  unfold slices_IndexFunc at h
  refine pcalls is47 na47 ?_
  try simp -implicitDefEqProofs
  have sc1 := cp1.sc
  have mc1 := cp1.mc
  have rf1 := cp1.rf
  have rw1 := cp1.rw
  have oc1 := cp1.oc
  refine go_seq ?_
  refine go_reg ?_
  try simp -implicitDefEqProofs
  repeat (with_reducible refine And.intro (by omega) ?_)
  refine go_seq ?_
  refine go_seq ?_
  refine go_reg ?_
  try simp -implicitDefEqProofs
  repeat (with_reducible refine And.intro (by omega) ?_)
  refine go_block ?_
  obtain ⟨rr_13, h, hn_1⟩ := bind_elim h
  refine go_loop (ε := Unit) h 0 (fun e => .inr e) (fun v8__2 => [(⟨.a, .b, .a⟩, .v (.int .i64 v8__2))]) (fun v8__2 => []) (fun v8__2 => []) (fun _ => []) (fun _ => []) (fun _ => []) (wkN_of 0 [] (by simp [oc1]) (by simp) (by simp) (by simp) (by simp)) ?_ ?_
  · rintro ⟨⟩ hq
    try simp -implicitDefEqProofs
    have h := hn_1
    rw [hq] at h
    try dsimp only at h
    refine go_seq ?_
    refine go_reg ?_
    try simp -implicitDefEqProofs
    repeat (with_reducible refine And.intro (by omega) ?_)
    obtain rfl := Option.some.inj h
    refine go_ret ?_
    simp -implicitDefEqProofs
  · rintro v8__2 o B' E' h hB hE hR
    simp only [slices_IndexFunc_L1] at h
    simp -implicitDefEqProofs
    refine go_seq ?_
    refine go_reg ?_
    try simp -implicitDefEqProofs
    repeat (with_reducible refine And.intro (by omega) ?_)
    refine go_seq ?_
    refine go_cond ?_
    try simp -implicitDefEqProofs
    repeat (with_reducible refine And.intro (by omega) ?_)
    first | with_reducible refine selP_ite h (by first | exact Iff.rfl | omega | (simp; done) | (simp [Pin.eqi, Edge.eqi, Arr3U8.eqi, Lattice.eqi]; done) | fail) ?_ ?_ | with_reducible refine selP_ite2 h (by first | exact Iff.rfl | omega | (simp; done) | (simp [Pin.eqi, Edge.eqi, Arr3U8.eqi, Lattice.eqi]; done) | fail) ?_ ?_ | with_reducible refine selP_ite h (by first | (simp only [Pin.eqi, Edge.eqi, Arr3U8.eqi, Lattice.eqi]; grind) | grind | fail) ?_ ?_ | with_reducible refine selP_ite2 h (by first | (simp only [Pin.eqi, Edge.eqi, Arr3U8.eqi, Lattice.eqi]; grind) | grind | fail) ?_ ?_
    · intro c_3 p_3 h
      refine go_skip ?_
      refine go_seq ?_
      refine go_block ?_
      refine go_seq ?_
      refine go_reg ?_
      try simp -implicitDefEqProofs [c_3]
      repeat (with_reducible refine And.intro (by omega) ?_)
      refine go_seq ?_
      refine go_reg ?_
      obtain ⟨⟨c_5, c_6⟩, h⟩ := chk_elim h
      have k_7 := toNat_lt c_5 c_6
      obtain ⟨w16_8, hc, h⟩ := bind_elim h
      try simp -implicitDefEqProofs [ok1, sc1, c_3, c_5, k_7]
      repeat (with_reducible refine And.intro (by omega) ?_)
      refine runC_t (hx1 hc) (by simp [rf1]) ?_
      try simp -implicitDefEqProofs
      repeat (with_reducible refine And.intro (by omega) ?_)
      refine go_cond ?_
      try simp -implicitDefEqProofs
      repeat (with_reducible refine And.intro (by omega) ?_)
      first | with_reducible refine selP_ite h (by first | exact Iff.rfl | omega | (simp; done) | (simp [Pin.eqi, Edge.eqi, Arr3U8.eqi, Lattice.eqi]; done) | fail) ?_ ?_ | with_reducible refine selP_ite2 h (by first | exact Iff.rfl | omega | (simp; done) | (simp [Pin.eqi, Edge.eqi, Arr3U8.eqi, Lattice.eqi]; done) | fail) ?_ ?_ | with_reducible refine selP_ite h (by first | (simp only [Pin.eqi, Edge.eqi, Arr3U8.eqi, Lattice.eqi]; grind) | grind | fail) ?_ ?_ | with_reducible refine selP_ite2 h (by first | (simp only [Pin.eqi, Edge.eqi, Arr3U8.eqi, Lattice.eqi]; grind) | grind | fail) ?_ ?_
      · intro c_9 p_9 h
        refine go_seq ?_
        refine go_reg ?_
        try simp -implicitDefEqProofs [c_9]
        repeat (with_reducible refine And.intro (by omega) ?_)
        obtain rfl := hR _ (Option.some.inj h).symm
        try dsimp only at hn_1
        have h := hn_1
        obtain rfl := Option.some.inj h
        refine go_ret ?_
        simp -implicitDefEqProofs
      · intro c_9 p_9 h
        have q_9 := eq_false_of_ne_true c_9
        refine go_skip ?_
        refine go_b ?_
        refine go_reg ?_
        obtain ⟨⟨c_11, c_12⟩, h⟩ := chk_elim h
        try simp -implicitDefEqProofs [q_9, c_11, c_12]
        repeat (with_reducible refine And.intro (by omega) ?_)
        refine go_l ?_
        exact hB _ _ (Option.some.inj h).symm (wkN_of 0 [] (by simp [oc1]) (by simp) (by simp) (by simp) (by simp))
    · intro c_3 p_3 h
      refine go_exit ?_
      simp -implicitDefEqProofs
      exact hE _ _ (Option.some.inj h).symm (wkN_of 0 [] (by simp [oc1, c_3]) (by simp) (by simp) (by simp) (by simp))
def slices_ContainsFunc (x0 : List Pin) (x1 : Pin → Option Bool) : Option Bool :=
  (slices_IndexFunc x0 x1).bind fun w7_1 =>
  some (decide (0 ≤ w7_1))
theorem link_slices_ContainsFunc {x0 : List Pin} {x1 : Pin → Option Bool} {f1 : FuncId} {cs1 : List PV} (ok1 : callOk Try.prog f1 = true) (cp1 : CapOk cs1) (hx1 : ∀ {a0 : Pin} {r : Bool}, x1 a0 = some r → PCalls Try.prog f1 ([.agg (cPin a0)] ++ cs1) (.v (.bool r))) {r : Bool} (h : slices_ContainsFunc x0 x1 = some r) : PCalls Try.prog 36 [.sl 3 (mp cPin x0) .lent, .fn f1 cs1] (.v (.bool r)) := by
  unfold slices_ContainsFunc at h
  refine pcalls is36 na36 ?_
  try simp -implicitDefEqProofs
  have sc1 := cp1.sc
  have mc1 := cp1.mc
  have rf1 := cp1.rf
  have rw1 := cp1.rw
  have oc1 := cp1.oc
  refine go_seq ?_
  refine go_reg ?_
  try simp -implicitDefEqProofs
  repeat (with_reducible refine And.intro (by omega) ?_)
  refine go_seq ?_
  refine go_reg ?_
  obtain ⟨w7_1, hc, h⟩ := bind_elim h
  try simp -implicitDefEqProofs [sc1]
  repeat (with_reducible refine And.intro (by omega) ?_)
  refine runC_t (link_slices_IndexFunc (f1 := f1) (cs1 := cs1) ok1 cp1 hx1 hc) (by simp [rw1]) ?_
  try simp -implicitDefEqProofs
  repeat (with_reducible refine And.intro (by omega) ?_)
  obtain rfl := Option.some.inj h
  refine go_ret ?_
  simp -implicitDefEqProofs
def slices_BinarySearchFunc_L1 (x0 : List Pin) (x1 : Pin) (x2 : Pin → Pin → Option Int) : (Int × Int) → Option ((Int × Int) ⊕ Int) := fun (v9__2, v10__3) =>
  if v9__2 < v10__3 then (
    chk (-9223372036854775808 ≤ v9__2 + v10__3 ∧ v9__2 + v10__3 ≤ 9223372036854775807) <|
    chk (0 ≤ v9__2 + v10__3 ∧ v9__2 + v10__3 ≤ 18446744073709551615) <|
    chk (-9223372036854775808 ≤ Int.fdiv (v9__2 + v10__3) 2 ∧ Int.fdiv (v9__2 + v10__3) 2 ≤ 9223372036854775807) <|
    chk (0 ≤ Int.fdiv (v9__2 + v10__3) 2 ∧ Int.fdiv (v9__2 + v10__3) 2 < (x0.length : Int)) <|
    (x2 (at' x0 (Int.fdiv (v9__2 + v10__3) 2)) x1).bind fun w30_19 =>
    if w30_19 < 0 then (
      chk (-9223372036854775808 ≤ (Int.fdiv (v9__2 + v10__3) 2) + 1 ∧ (Int.fdiv (v9__2 + v10__3) 2) + 1 ≤ 9223372036854775807) <|
      some (.inl ((Int.fdiv (v9__2 + v10__3) 2) + 1, v10__3))
    ) else (
      some (.inl (v9__2, Int.fdiv (v9__2 + v10__3) 2))
    )
  ) else (
    some (.inr v9__2)
  )
def slices_BinarySearchFunc (x0 : List Pin) (x1 : Pin) (x2 : Pin → Pin → Option Int) : Option (Int × Bool) :=
  (loop (slices_BinarySearchFunc_L1 x0 x1 x2) (0, (x0.length : Int))).bind fun v9_4 =>
  (
    (
      if v9_4 < (x0.length : Int) then (
        chk (0 ≤ v9_4 ∧ v9_4 < (x0.length : Int)) <|
        (x2 (at' x0 v9_4) x1).bind fun w46_32 =>
        some (v9_4, decide (w46_32 = 0))
      ) else (
        some (v9_4, false)
      )
    : Option (Int × Bool))
  ).bind fun (v6_24, v7_25) =>
  some (v6_24, v7_25)
theorem link_slices_BinarySearchFunc {x0 : List Pin} {x1 : Pin} {x2 : Pin → Pin → Option Int} {f2 : FuncId} {cs2 : List PV} (ok2 : callOk Try.prog f2 = true) (cp2 : CapOk cs2) (hx2 : ∀ {a0 : Pin} {a1 : Pin} {r : Int}, x2 a0 a1 = some r → PCalls Try.prog f2 ([.agg (cPin a0), .agg (cPin a1)] ++ cs2) (.v (.int .i64 r))) {r : Int × Bool} (h : slices_BinarySearchFunc x0 x1 x2 = some r) : PCalls Try.prog 32 [.sl 3 (mp cPin x0) .lent, .agg (cPin x1), .fn f2 cs2] (.tup [.v (.int .i64 r.1), .v (.bool r.2)]) := by
  unfold slices_BinarySearchFunc at h
  refine pcalls is32 na32 ?_
  try simp -implicitDefEqProofs
  have sc2 := cp2.sc
  have mc2 := cp2.mc
  have rf2 := cp2.rf
  have rw2 := cp2.rw
  have oc2 := cp2.oc
  refine go_seq ?_
  refine go_reg ?_
  try simp -implicitDefEqProofs
  repeat (with_reducible refine And.intro (by omega) ?_)
  refine go_seq ?_
  refine go_reg ?_
  try simp -implicitDefEqProofs
  repeat (with_reducible refine And.intro (by omega) ?_)
  refine go_seq ?_
  refine go_reg ?_
  try simp -implicitDefEqProofs
  repeat (with_reducible refine And.intro (by omega) ?_)
  refine go_seq ?_
  refine go_block ?_
  obtain ⟨rr_33, h, hn_1⟩ := bind_elim h
  refine go_loop (ε := Int) h 0 (fun e => e) (fun (v9__2, v10__3) => [(⟨.a, .b, .b⟩, .v (.int .i64 v9__2)), (⟨.a, .b, .c⟩, .v (.int .i64 v10__3))]) (fun (v9__2, v10__3) => [[.v (.int .i64 x1.From), .v (.int .i64 x1.To), .v (.int .i64 x1.Word)]]) (fun (v9__2, v10__3) => []) (fun v9_4 => [(⟨.a, .b, .b⟩, .v (.int .i64 v9_4))]) (fun v9_4 => [[.v (.int .i64 x1.From), .v (.int .i64 x1.To), .v (.int .i64 x1.Word)]]) (fun v9_4 => []) (wkN_of 0 [] (by simp [oc2]) (by simp) (by simp) (by simp) (by simp)) ?_ ?_
  · rintro v9_4 hq
    try simp -implicitDefEqProofs
    have h := hn_1
    rw [hq] at h
    try dsimp only at h
    refine go_seq ?_
    refine go_reg ?_
    refine run_join h [⟨.a, .a, .g⟩, ⟨.a, .a, .h⟩, ⟨.a, .e, .d⟩, ⟨.a, .e, .e⟩, ⟨.a, .e, .f⟩, ⟨.a, .e, .g⟩, ⟨.a, .e, .h⟩, ⟨.a, .f, .a⟩, ⟨.a, .f, .b⟩, ⟨.a, .f, .c⟩, ⟨.a, .f, .d⟩, ⟨.a, .f, .e⟩, ⟨.a, .f, .f⟩, ⟨.a, .f, .g⟩, ⟨.a, .f, .h⟩, ⟨.a, .g, .a⟩] (fun (v6_24, v7_25) => [(⟨.a, .a, .g⟩, .v (.int .i64 v6_24)), (⟨.a, .a, .h⟩, .v (.bool v7_25))]) (fun (v6_24, v7_25) => [[.v (.int .i64 x1.From), .v (.int .i64 x1.To), .v (.int .i64 x1.Word)]]) (fun (v6_24, v7_25) => []) (by repeat (first | exact soft_c | refine soft_b ?_)) ?_ ?_
    · rintro ⟨v6_24, v7_25⟩ h
      try dsimp only at h
      try simp -implicitDefEqProofs
      obtain rfl := Option.some.inj h
      refine go_ret ?_
      simp -implicitDefEqProofs
    · intro v E h hJ
      try simp -implicitDefEqProofs
      repeat (with_reducible refine And.intro (by omega) ?_)
      first | with_reducible refine selP_ite h (by first | exact Iff.rfl | omega | (simp; done) | (simp [Pin.eqi, Edge.eqi, Arr3U8.eqi, Lattice.eqi]; done) | fail) ?_ ?_ | with_reducible refine selP_ite2 h (by first | exact Iff.rfl | omega | (simp; done) | (simp [Pin.eqi, Edge.eqi, Arr3U8.eqi, Lattice.eqi]; done) | fail) ?_ ?_ | with_reducible refine selP_ite h (by first | (simp only [Pin.eqi, Edge.eqi, Arr3U8.eqi, Lattice.eqi]; grind) | grind | fail) ?_ ?_ | with_reducible refine selP_ite2 h (by first | (simp only [Pin.eqi, Edge.eqi, Arr3U8.eqi, Lattice.eqi]; grind) | grind | fail) ?_ ?_
      · intro c_27 p_27 h
        obtain ⟨⟨c_29, c_30⟩, h⟩ := chk_elim h
        have k_31 := toNat_lt c_29 c_30
        obtain ⟨w46_32, hc, h⟩ := bind_elim h
        try simp -implicitDefEqProofs [ok2, sc2, c_27, c_29, k_31]
        repeat (with_reducible refine And.intro (by omega) ?_)
        refine runC_t (hx2 hc) (by simp [rf2]) ?_
        try simp -implicitDefEqProofs
        repeat (with_reducible refine And.intro (by omega) ?_)
        refine go_l ?_
        obtain rfl := Option.some.inj h
        exact hJ _ (wkN_of 0 [] (by simp [oc2]) (by simp) (by simp) (by simp) (by simp))
      · intro c_27 p_27 h
        try simp -implicitDefEqProofs [c_27]
        repeat (with_reducible refine And.intro (by omega) ?_)
        refine go_l ?_
        obtain rfl := Option.some.inj h
        exact hJ _ (wkN_of 0 [] (by simp [oc2]) (by simp) (by simp) (by simp) (by simp))
  · rintro ⟨v9__2, v10__3⟩ o B' E' h hB hE hR
    simp only [slices_BinarySearchFunc_L1] at h
    simp -implicitDefEqProofs
    refine go_seq ?_
    refine go_seq ?_
    refine go_reg ?_
    try simp -implicitDefEqProofs
    repeat (with_reducible refine And.intro (by omega) ?_)
    refine go_cond ?_
    try simp -implicitDefEqProofs
    repeat (with_reducible refine And.intro (by omega) ?_)
    first | with_reducible refine selP_ite h (by first | exact Iff.rfl | omega | (simp; done) | (simp [Pin.eqi, Edge.eqi, Arr3U8.eqi, Lattice.eqi]; done) | fail) ?_ ?_ | with_reducible refine selP_ite2 h (by first | exact Iff.rfl | omega | (simp; done) | (simp [Pin.eqi, Edge.eqi, Arr3U8.eqi, Lattice.eqi]; done) | fail) ?_ ?_ | with_reducible refine selP_ite h (by first | (simp only [Pin.eqi, Edge.eqi, Arr3U8.eqi, Lattice.eqi]; grind) | grind | fail) ?_ ?_ | with_reducible refine selP_ite2 h (by first | (simp only [Pin.eqi, Edge.eqi, Arr3U8.eqi, Lattice.eqi]; grind) | grind | fail) ?_ ?_
    · intro c_5 p_5 h
      refine go_skip ?_
      refine go_block ?_
      refine go_seq ?_
      refine go_reg ?_
      obtain ⟨⟨c_7, c_8⟩, h⟩ := chk_elim h
      obtain ⟨⟨c_10, c_11⟩, h⟩ := chk_elim h
      obtain ⟨⟨c_13, c_14⟩, h⟩ := chk_elim h
      try simp -implicitDefEqProofs [c_5, c_7, c_8, c_10, c_11, c_13, c_14]
      repeat (with_reducible refine And.intro (by omega) ?_)
      refine go_seq ?_
      refine go_reg ?_
      obtain ⟨⟨c_16, c_17⟩, h⟩ := chk_elim h
      have k_18 := toNat_lt c_16 c_17
      obtain ⟨w30_19, hc, h⟩ := bind_elim h
      try simp -implicitDefEqProofs [ok2, sc2, c_16, c_17, k_18]
      repeat (with_reducible refine And.intro (by omega) ?_)
      refine runC_t (hx2 hc) (by simp [rf2]) ?_
      try simp -implicitDefEqProofs
      repeat (with_reducible refine And.intro (by omega) ?_)
      refine go_cond ?_
      try simp -implicitDefEqProofs
      repeat (with_reducible refine And.intro (by omega) ?_)
      first | with_reducible refine selP_ite h (by first | exact Iff.rfl | omega | (simp; done) | (simp [Pin.eqi, Edge.eqi, Arr3U8.eqi, Lattice.eqi]; done) | fail) ?_ ?_ | with_reducible refine selP_ite2 h (by first | exact Iff.rfl | omega | (simp; done) | (simp [Pin.eqi, Edge.eqi, Arr3U8.eqi, Lattice.eqi]; done) | fail) ?_ ?_ | with_reducible refine selP_ite h (by first | (simp only [Pin.eqi, Edge.eqi, Arr3U8.eqi, Lattice.eqi]; grind) | grind | fail) ?_ ?_ | with_reducible refine selP_ite2 h (by first | (simp only [Pin.eqi, Edge.eqi, Arr3U8.eqi, Lattice.eqi]; grind) | grind | fail) ?_ ?_
      · intro c_20 p_20 h
        refine go_reg ?_
        obtain ⟨⟨c_22, c_23⟩, h⟩ := chk_elim h
        try simp -implicitDefEqProofs [c_20, c_22, c_23]
        repeat (with_reducible refine And.intro (by omega) ?_)
        refine go_b ?_
        refine go_l ?_
        exact hB _ _ (Option.some.inj h).symm (wkN_of 0 [] (by simp [oc2]) (by simp) (by simp) (by simp) (by simp))
      · intro c_20 p_20 h
        refine go_reg ?_
        try simp -implicitDefEqProofs [c_20]
        repeat (with_reducible refine And.intro (by omega) ?_)
        refine go_b ?_
        refine go_l ?_
        exact hB _ _ (Option.some.inj h).symm (wkN_of 0 [] (by simp [oc2]) (by simp) (by simp) (by simp) (by simp))
    · intro c_5 p_5 h
      refine go_exit ?_
      simp -implicitDefEqProofs
      exact hE _ _ (Option.some.inj h).symm (wkN_of 0 [] (by simp [oc2, c_5]) (by simp) (by simp) (by simp) (by simp))
def pin_Restrict_L1 (x0 : Lattice) (x1 : List Pin) : (Int × List Edge) → Option ((Int × List Edge) ⊕ ((List Edge))) := fun (v14__2, b2_1_3) =>
  if v14__2 < (x0.Edges.length : Int) then (
    chk (0 ≤ v14__2 ∧ v14__2 < (x0.Edges.length : Int)) <|
    (slices_ContainsFunc x1 (fun a0 => pin_Restrict_1 a0 (at' x0.Edges v14__2))).bind fun w20_10 =>
    (
      (
        if w20_10 = true then (
          some b2_1_3
        ) else (
          chk ((b2_1_3.length + ([at' x0.Edges v14__2] : List Edge).length) * 32 ≤ 140737488355328) <|
          some (b2_1_3 ++ [at' x0.Edges v14__2])
        )
      : Option (List Edge))
    ).bind fun b2_1_11 =>
    chk (-9223372036854775808 ≤ v14__2 + 1 ∧ v14__2 + 1 ≤ 9223372036854775807) <|
    some (.inl (v14__2 + 1, b2_1_11))
  ) else (
    some (.inr b2_1_3)
  )
def pin_Restrict (x0 : Lattice) (x1 : List Pin) : Option Lattice :=
  (loop (pin_Restrict_L1 x0 x1) (0, [])).bind fun b2_1_4 =>
  some (⟨x0.N, b2_1_4⟩ : Lattice)
theorem link_pin_Restrict {x0 : Lattice} {x1 : List Pin} {r : Lattice} (h : pin_Restrict x0 x1 = some r) : PCalls Try.prog 16 [.agg (cLattice .lent x0), .sl 3 (mp cPin x1) .lent] (.agg (cLattice .none r)) := by
  unfold pin_Restrict at h
  refine pcalls is16 na16 ?_
  try simp -implicitDefEqProofs
  refine go_seq ?_
  refine go_reg ?_
  try simp -implicitDefEqProofs
  repeat (with_reducible refine And.intro (by omega) ?_)
  refine go_seq ?_
  refine go_reg ?_
  try simp -implicitDefEqProofs
  repeat (with_reducible refine And.intro (by omega) ?_)
  refine go_seq ?_
  refine go_seq ?_
  refine go_reg ?_
  try simp -implicitDefEqProofs
  repeat (with_reducible refine And.intro (by omega) ?_)
  refine go_block ?_
  obtain ⟨rr_18, h, hn_1⟩ := bind_elim h
  refine go_loop (ε := List Edge) h 0 (fun e => e) (fun (v14__2, b2_1_3) => [(⟨.a, .b, .g⟩, .v (.int .i64 v14__2))]) (fun (v14__2, b2_1_3) => [[.v (.int .i64 x0.N), .sl 4 (mp cEdge x0.Edges) .lent], [.v (.int .i64 0), .sl 0 [] .full], [.v (.int .i64 x0.N), .sl 4 (mp cEdge b2_1_3) (.id 0)]]) (fun (v14__2, b2_1_3) => [(b2_1_3).length]) (fun b2_1_4 => []) (fun b2_1_4 => [[.v (.int .i64 x0.N), .sl 4 (mp cEdge x0.Edges) .lent], [.v (.int .i64 0), .sl 0 [] .full], [.v (.int .i64 x0.N), .sl 4 (mp cEdge b2_1_4) (.id 0)]]) (fun b2_1_4 => [(b2_1_4).length]) (wkN_of 0 [0] (by simp) (by simp) (by simp) (by simp) (by simp)) ?_ ?_
  · rintro b2_1_4 hq
    try simp -implicitDefEqProofs
    have h := hn_1
    rw [hq] at h
    try dsimp only at h
    refine go_seq ?_
    refine go_reg ?_
    try simp -implicitDefEqProofs
    repeat (with_reducible refine And.intro (by omega) ?_)
    obtain rfl := Option.some.inj h
    refine go_ret ?_
    simp -implicitDefEqProofs
  · rintro ⟨v14__2, b2_1_3⟩ o B' E' h hB hE hR
    simp only [pin_Restrict_L1] at h
    simp -implicitDefEqProofs
    refine go_seq ?_
    refine go_reg ?_
    try simp -implicitDefEqProofs
    repeat (with_reducible refine And.intro (by omega) ?_)
    refine go_seq ?_
    refine go_cond ?_
    try simp -implicitDefEqProofs
    repeat (with_reducible refine And.intro (by omega) ?_)
    first | with_reducible refine selP_ite h (by first | exact Iff.rfl | omega | (simp; done) | (simp [Pin.eqi, Edge.eqi, Arr3U8.eqi, Lattice.eqi]; done) | fail) ?_ ?_ | with_reducible refine selP_ite2 h (by first | exact Iff.rfl | omega | (simp; done) | (simp [Pin.eqi, Edge.eqi, Arr3U8.eqi, Lattice.eqi]; done) | fail) ?_ ?_ | with_reducible refine selP_ite h (by first | (simp only [Pin.eqi, Edge.eqi, Arr3U8.eqi, Lattice.eqi]; grind) | grind | fail) ?_ ?_ | with_reducible refine selP_ite2 h (by first | (simp only [Pin.eqi, Edge.eqi, Arr3U8.eqi, Lattice.eqi]; grind) | grind | fail) ?_ ?_
    · intro c_5 p_5 h
      refine go_skip ?_
      refine go_seq ?_
      refine go_block ?_
      refine go_seq ?_
      refine go_reg ?_
      obtain ⟨⟨c_7, c_8⟩, h⟩ := chk_elim h
      have k_9 := toNat_lt c_7 c_8
      try simp -implicitDefEqProofs [c_5, c_7, k_9]
      repeat (with_reducible refine And.intro (by omega) ?_)
      refine go_seq ?_
      refine go_reg ?_
      obtain ⟨w20_10, hc, h⟩ := bind_elim h
      try simp -implicitDefEqProofs
      repeat (with_reducible refine And.intro (by omega) ?_)
      refine runC_t (link_slices_ContainsFunc (f1 := 37) (cs1 := [.pt [.v (.int .i64 ((at' x0.Edges v14__2).From)), .v (.int .i64 ((at' x0.Edges v14__2).To)), .v (.int .i64 ((at' x0.Edges v14__2).Word)), .v (.int .i64 ((at' x0.Edges v14__2).Cost))]]) (by kernel_rfl) ⟨by simp, by simp, by simp, by simp, by simp⟩ (fun h => link_pin_Restrict_1 h) hc) (by simp) ?_
      try simp -implicitDefEqProofs
      repeat (with_reducible refine And.intro (by omega) ?_)
      refine go_join h [⟨.a, .c, .g⟩, ⟨.a, .c, .h⟩, ⟨.a, .d, .a⟩, ⟨.a, .d, .b⟩, ⟨.a, .d, .c⟩, ⟨.a, .d, .d⟩] (fun b2_1_11 => []) (fun b2_1_11 => [[.v (.int .i64 x0.N), .sl 4 (mp cEdge x0.Edges) .lent], [.v (.int .i64 0), .sl 0 [] .full], [.v (.int .i64 x0.N), .sl 4 (mp cEdge b2_1_11) (.id 0)], [.v (.int .i64 ((at' x0.Edges v14__2).From)), .v (.int .i64 ((at' x0.Edges v14__2).To)), .v (.int .i64 ((at' x0.Edges v14__2).Word)), .v (.int .i64 ((at' x0.Edges v14__2).Cost))]]) (fun b2_1_11 => [(b2_1_11).length]) (by repeat (first | exact soft_c | refine soft_b ?_)) ?_ ?_
      · rintro b2_1_11 h
        try dsimp only at h
        try simp -implicitDefEqProofs
        refine go_b ?_
        refine go_reg ?_
        obtain ⟨⟨c_16, c_17⟩, h⟩ := chk_elim h
        try simp -implicitDefEqProofs [c_16, c_17]
        repeat (with_reducible refine And.intro (by omega) ?_)
        refine go_l ?_
        exact hB _ _ (Option.some.inj h).symm (wkN_of 1 [] (by simp) (by simp) (by simp) (by simp) (by simp))
      · intro v E h hJ
        refine go_cond ?_
        try simp -implicitDefEqProofs
        repeat (with_reducible refine And.intro (by omega) ?_)
        first | with_reducible refine selP_ite h (by first | exact Iff.rfl | omega | (simp; done) | (simp; done) | fail) ?_ ?_ | with_reducible refine selP_ite2 h (by first | exact Iff.rfl | omega | (simp; done) | (simp [Pin.eqi, Edge.eqi, Arr3U8.eqi, Lattice.eqi]; done) | fail) ?_ ?_ | with_reducible refine selP_ite h (by first | (simp only [Pin.eqi, Edge.eqi, Arr3U8.eqi, Lattice.eqi]; grind) | grind | fail) ?_ ?_ | with_reducible refine selP_ite2 h (by first | (simp only [Pin.eqi, Edge.eqi, Arr3U8.eqi, Lattice.eqi]; grind) | grind | fail) ?_ ?_
        · intro c_13 p_13 h
          refine go_skip ?_
          refine go_l ?_
          obtain rfl := Option.some.inj h
          exact hJ _ (wkN_of 1 [] (by simp [c_13]) (by simp [c_13]) (by simp) (by simp) (by simp))
        · intro c_13 p_13 h
          have q_13 := eq_false_of_ne_true c_13
          refine go_reg ?_
          obtain ⟨c_14, h⟩ := chk_elim h
          try simp -implicitDefEqProofs [p_13]
          repeat (with_reducible refine And.intro (by omega) ?_)
          refine runR_apiT cEdge b2_1_3 [at' x0.Edges v14__2] (by first | rfl | simp) (elems_mp cEdge _ _ [at' x0.Edges v14__2] _) (by simp) c_14 ?_ (by decide)
          try simp -implicitDefEqProofs
          repeat (with_reducible refine And.intro (by omega) ?_)
          refine go_l ?_
          obtain rfl := Option.some.inj h
          exact hJ _ (wkN_of 1 [] (by simp [c_13]) (by simp [c_13]) (by simp) (by simp) (by simp))
    · intro c_5 p_5 h
      refine go_exit ?_
      simp -implicitDefEqProofs
      exact hE _ _ (Option.some.inj h).symm (wkN_of 1 [] (by simp [c_5]) (by simp) (by simp) (by simp) (by simp))
end Go.Proofs.Ytdkancgcefklfaa
